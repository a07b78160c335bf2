/- Functions of the program, as plain Lean functions: each with the proof that the evaluator computes it. (Printed by wip/dec/dec.py.) -/
import Derived.Test.YtbinkbfjedoolaaTN
import Derived.Test.YtbinkbfjedoolaaTO
import Derived.Test.YtbinkbfjedoolaaTR
import Derived.Test.YtbinkbfjedoolaaProg
import Derived.Test.YtbinkbfjedoolaaChecked
import Derived.Test.YtbinkbfjedoolaaDA
namespace Go.Proofs.YtbinkbfjedoolaaD
open Go Go.Proofs.YtbinkbfjedoolaaS Go.Proofs
set_option linter.unusedVariables false
abbrev f16_R : Type 1 := (X : Type) → (Nat × (List CV) → Option X) → (List CV) → Option X
def f16_out (u : Nat × (List CV)) : Out := ⟨(.osl [2000] none 0 u.1), [([2000], (.row false none u.2))]⟩
def f16_cOf (R : f16_R) : FnC := fun X xs ns K => match xs, ns with
  | [(.sl false none x0)], [] => R X (fun u => K (f16_out u)) x0
  | _, _ => none
def f16_plan : Nat → Option (List Nat × List Wk)
  | 0 => some ([0], [])
  | 1 => some ([0], [])
  | 2 => some ([0, 3], [])
  | 3 => some ([0, 3, 4], [])
  | 4 => some ([0, 3, 4], [])
  | 5 => some ([0, 3, 4], [])
  | 6 => some ([3], [])
  | _ => none
def f16_C : Fns := noC
theorem f16_Cok : CsOk Try.prog (f16_C) := noC_ok
def f16_cx : Cx := mkCx (tabOf rows) (f16_C) md (cmpIn cmps) f16_plan (f16_Cok)
def f16_S1 (v : (List CV) × Nat × Int × (List CV)) : St := ⟨[(.sl false none v.1), .undef, .undef, (.osl [3] none 0 v.2.1), (.v (CV.int .i64 v.2.2.1)), .undef, .undef, .undef, .undef, .undef, .undef, .undef, .undef, .undef, .undef, .undef, .undef, .undef, .undef, .undef], [([3], (.row false none v.2.2.2))]⟩
def f16_T1 {X : Type} (k : Nat) (K : Nat × (List CV) → Option X)   (rec1 : (List CV) × Nat × Int × (List CV) → Option X) (v5_0 : (List CV) × Nat × Int × (List CV)) : Option X :=
(bif (decide (v5_0.2.2.1 < (Nat.cast ((List.length v5_0.1)) : Int))) then
grd (decide (0 ≤ v5_0.2.2.1)) <|
Option.bind (v5_0.1)[(Int.toNat v5_0.2.2.1)]? fun e5 =>
grd (CV.isI .u8 e5) <|
grd (decide ((v5_0.2.1 + (List.length (List.take 1 (List.drop 0 [(CV.int .u8 (CV.toI e5))])))) * 1 ≤ 140737488355328)) <|
rec1 (v5_0.1, (v5_0.2.1 + (List.length (List.take 1 (List.drop 0 [(CV.int .u8 (CV.toI e5))])))), (IntKind.wrap .i64 (v5_0.2.2.1 + 1)), ((List.take v5_0.2.1 v5_0.2.2.2) ++ (List.take 1 (List.drop 0 [(CV.int .u8 (CV.toI e5))]))))
else
K (v5_0.2.1, (List.take (0 + v5_0.2.1) v5_0.2.2.2)))
def f16_L1 {X : Type} (k : Nat) (K : Nat × (List CV) → Option X)  (rec1 : (List CV) × Nat × Int × (List CV) → Option X) (v : (List CV) × Nat × Int × (List CV)) : Option X := f16_T1 k K   rec1 v
set_option maxRecDepth 100000 in
theorem f16_L1_ev {X : Type} (k : Nat) (K : Out → Option X)  (r1 : St → Option X) (v : (List CV) × Nat × Int × (List CV)) : loopB (f16_cx) k [.r, .r, .l, .r, .b] (Try.f16.body.getD .skip) (retK (f16_cx) [] Try.f16.results.toList K) [] r1 (f16_S1 v) = f16_T1 k (fun u => K (f16_out u))   (fun v => r1 (f16_S1 v)) v := by kernel_rfl
theorem f16_L1_it {X : Type} (k : Nat) (K : Out → Option X)  : (fun v => iter (loopB (f16_cx) k [.r, .r, .l, .r, .b] (Try.f16.body.getD .skip) (retK (f16_cx) [] Try.f16.results.toList K) []) k (f16_S1 v)) = iterV (f16_L1 k (fun u => K (f16_out u)) ) k :=
  iter_map (fun r1 v => (f16_L1_ev k K  r1 v).trans rfl) k
def f16_T {X : Type} (k : Nat) (K : Nat × (List CV) → Option X) (loop1 : (List CV) × Nat × Int × (List CV) → Option X) (x0 : List CV) : Option X :=
loop1 (x0, 0, 0, [])
/-- "outpost/outpostref01.Copy" -/
def f16_A (k : Nat) : f16_R := fun X K x0 => f16_T k K (iterV (f16_L1 k K) k) x0
set_option maxRecDepth 100000 in
theorem f16_ev' {X : Type} (k : Nat) (K : Out → Option X) (x0 : List CV) : evFn (f16_cx) [] k Try.f16.ntmps Try.f16.results.toList (Try.f16.body.getD .skip) [(.sl false none x0)] [] K = f16_T k (fun u => K (f16_out u)) (fun v => iter (loopB (f16_cx) k [.r, .r, .l, .r, .b] (Try.f16.body.getD .skip) (retK (f16_cx) [] Try.f16.results.toList K) []) k (f16_S1 v)) x0 := by kernel_rfl
theorem f16_ev {X : Type} (k : Nat) (K : Out → Option X) (x0 : List CV) : evFn (f16_cx) [] k Try.f16.ntmps Try.f16.results.toList (Try.f16.body.getD .skip) [(.sl false none x0)] [] K = f16_A k X (fun u => K (f16_out u)) x0 := (f16_ev' k K x0).trans (by rw [f16_L1_it k K]; rfl)
theorem f16_okA (k : Nat) : AnsOk Try.prog 16 (f16_cOf (f16_A k)) := by
  intro X xs ns K x h
  unfold f16_cOf at h ⊢
  split at h
  · exact ans_main S (f16_Cok) Try.func16 (ent_of Try.func16 (by kernel_rfl) rfl) rfl (fun X K => f16_ev k K _) h
  · cases h
/-- "outpost/outpostref01.Copy" -/
def f16 {X : Type} (k : Nat) (K : Nat × (List CV) → Option X) (x0 : List CV) : Option X := f16_A k X K x0
theorem f16_ok (k : Nat) : AnsOk Try.prog 16 (f16_cOf (fun X => @f16 X k)) := f16_okA k
abbrev f46_R : Type 1 := (X : Type) → (Int × Bool × (List CV) × Int → Option X) → Int → (List CV) → Int → Option X
def f46_out (u : Int × Bool × (List CV) × Int) : Out := ⟨(.tup [(.v (CV.int .i64 u.1)), (.v (CV.bool u.2.1))]), [([1000], (.obj [(.sl true none u.2.2.1), (.v (CV.int .i64 u.2.2.2))]))]⟩
def f46_cOf (R : f46_R) : FnC := fun X xs ns K => match xs, ns with
  | [(.ptr [1000] 0 0 0), (.v (CV.int .i64 x0))], [([1000], (.obj [(.sl true none x1), (.v (CV.int .i64 x2))]))] => R X (fun u => K (f46_out u)) x0 x1 x2
  | _, _ => none
def f46_plan : Nat → Option (List Nat × List Wk)
  | 0 => some ([0, 1], [])
  | 1 => some ([0, 1], [])
  | 2 => some ([0, 1, 6], [])
  | 3 => some ([0], [])
  | 4 => some ([], [])
  | 5 => some ([0], [])
  | 6 => some ([0], [])
  | 7 => some ([0, 1, 6], [])
  | 8 => some ([0], [])
  | 9 => some ([], [])
  | 10 => some ([0], [])
  | 11 => some ([0], [])
  | 12 => some ([1], [])
  | _ => none
def f46_C : Fns := noC
theorem f46_Cok : CsOk Try.prog (f46_C) := noC_ok
def f46_cx : Cx := mkCx (tabOf rows) (f46_C) md (cmpIn cmps) f46_plan (f46_Cok)
def f46_T {X : Type} (k : Nat) (K : Int × Bool × (List CV) × Int → Option X)  (x0 : Int) (x1 : List CV) (x2 : Int) : Option X :=
(bif (x0 == 13) then
(bif (decide ((IntKind.wrap .i64 (x2 + 1)) > (Nat.cast ((List.length x1)) : Int))) then
K (0, false, x1, x2)
else
grd (decide (0 ≤ (IntKind.wrap .i64 ((IntKind.wrap .i64 (x2 + 1)) - 1)))) <|
Option.bind (x1)[(Int.toNat (IntKind.wrap .i64 ((IntKind.wrap .i64 (x2 + 1)) - 1)))]? fun e4 =>
grd (CV.isI .u8 e4) <|
K ((IntKind.wrap .i64 (13 + (IntKind.wrap .i64 (CV.toI e4)))), true, x1, (IntKind.wrap .i64 (x2 + 1))))
else
(bif (x0 == 14) then
(bif (decide ((IntKind.wrap .i64 (x2 + 2)) > (Nat.cast ((List.length x1)) : Int))) then
K (0, false, x1, x2)
else
grd (decide (0 ≤ (IntKind.wrap .i64 ((IntKind.wrap .i64 (x2 + 2)) - 2)))) <|
Option.bind (x1)[(Int.toNat (IntKind.wrap .i64 ((IntKind.wrap .i64 (x2 + 2)) - 2)))]? fun e5 =>
grd (CV.isI .u8 e5) <|
grd (decide (0 ≤ (IntKind.wrap .i64 ((IntKind.wrap .i64 (x2 + 2)) - 1)))) <|
Option.bind (x1)[(Int.toNat (IntKind.wrap .i64 ((IntKind.wrap .i64 (x2 + 2)) - 1)))]? fun e6 =>
grd (CV.isI .u8 e6) <|
K ((IntKind.wrap .i64 ((IntKind.wrap .i64 (269 + (IntKind.wrap .i64 ((IntKind.wrap .i64 (CV.toI e5)) * 2 ^ 8)))) + (IntKind.wrap .i64 (CV.toI e6)))), true, x1, (IntKind.wrap .i64 (x2 + 2))))
else
K (x0, true, x1, x2)))
/-- "(*outpost/opt.reader).number" -/
def f46_A (k : Nat) : f46_R := fun X K x0 x1 x2 => f46_T k K  x0 x1 x2
set_option maxRecDepth 100000 in
theorem f46_ev' {X : Type} (k : Nat) (K : Out → Option X) (x0 : Int) (x1 : List CV) (x2 : Int) : evFn (f46_cx) [] k Try.f46.ntmps Try.f46.results.toList (Try.f46.body.getD .skip) [(.ptr [1000] 0 0 0), (.v (CV.int .i64 x0))] [([1000], (.obj [(.sl true none x1), (.v (CV.int .i64 x2))]))] K = f46_T k (fun u => K (f46_out u)) x0 x1 x2 := by kernel_rfl
theorem f46_ev {X : Type} (k : Nat) (K : Out → Option X) (x0 : Int) (x1 : List CV) (x2 : Int) : evFn (f46_cx) [] k Try.f46.ntmps Try.f46.results.toList (Try.f46.body.getD .skip) [(.ptr [1000] 0 0 0), (.v (CV.int .i64 x0))] [([1000], (.obj [(.sl true none x1), (.v (CV.int .i64 x2))]))] K = f46_A k X (fun u => K (f46_out u)) x0 x1 x2 := (f46_ev' k K x0 x1 x2).trans rfl
theorem f46_okA (k : Nat) : AnsOk Try.prog 46 (f46_cOf (f46_A k)) := by
  intro X xs ns K x h
  unfold f46_cOf at h ⊢
  split at h
  · exact ans_main S (f46_Cok) Try.func46 (ent_of Try.func46 (by kernel_rfl) rfl) rfl (fun X K => f46_ev k K _ _ _) h
  · cases h
/-- "(*outpost/opt.reader).number" -/
def f46 {X : Type} (k : Nat) (K : Int × Bool × (List CV) × Int → Option X) (x0 : Int) (x1 : List CV) (x2 : Int) : Option X := f46_A k X K x0 x1 x2
theorem f46_ok (k : Nat) : AnsOk Try.prog 46 (f46_cOf (fun X => @f46 X k)) := f46_okA k
abbrev f30_R : Type 1 := (X : Type) → (Int × Nat × Int × (List CV) × Int × (List CV) → Option X) → Int → Int → (List CV) → Int → Option X
def f30_out (u : Int × Nat × Int × (List CV) × Int × (List CV)) : Out := ⟨(.tup [(.agg [(.v (CV.int .i64 u.1)), (.osl [1, 0, 2000] none 0 u.2.1)]), (.v (CV.int .i64 u.2.2.1))]), [([1000], (.obj [(.sl true none u.2.2.2.1), (.v (CV.int .i64 u.2.2.2.2.1))])), ([1, 0, 2000], (.row false none u.2.2.2.2.2))]⟩
def f30_cOf (R : f30_R) : FnC := fun X xs ns K => match xs, ns with
  | [(.ptr [1000] 0 0 0), (.v (CV.int .i64 x0)), (.v (CV.int .i64 x1))], [([1000], (.obj [(.sl true none x2), (.v (CV.int .i64 x3))]))] => R X (fun u => K (f30_out u)) x0 x1 x2 x3
  | _, _ => none
def f30_plan : Nat → Option (List Nat × List Wk)
  | 0 => some ([0, 1, 2], [])
  | 1 => some ([0, 1, 2, 6], [])
  | 2 => some ([0, 1, 2, 6, 8], [])
  | 3 => some ([6], [])
  | 4 => some ([0, 1, 2, 6, 8], [])
  | 5 => some ([0, 1, 2, 6, 8], [])
  | 6 => some ([0, 1, 2, 6, 8, 9, 10], [])
  | 7 => some ([6], [])
  | 8 => some ([0, 1, 2, 6, 8, 9], [])
  | 9 => some ([0, 1, 2, 6, 9, 10, 11], [])
  | 10 => some ([6], [])
  | 11 => some ([0, 1, 2, 6, 9, 11], [])
  | 12 => some ([6], [])
  | 13 => some ([0, 1, 6, 9, 11], [])
  | 14 => some ([6], [])
  | 15 => some ([0, 1, 6, 9, 11], [])
  | 16 => some ([6], [])
  | 17 => some ([0, 1, 6, 9, 11], [])
  | 18 => some ([6], [])
  | 19 => some ([0, 1, 6, 9, 11], [])
  | 20 => some ([0, 6, 11, 12], [])
  | 21 => some ([6, 12], [])
  | _ => none
def f30_C (R_f46 : f46_R) (R_f38 : f38_R) : Fns := (orC 38 (f38_cOf R_f38) (orC 46 (f46_cOf R_f46) noC))
theorem f30_Cok (R_f46 : f46_R) (R_f38 : f38_R) (hR_f46 : AnsOk Try.prog 46 (f46_cOf R_f46)) (hR_f38 : AnsOk Try.prog 38 (f38_cOf R_f38)) : CsOk Try.prog (f30_C R_f46 R_f38) := (orC_ok hR_f38 (orC_ok hR_f46 noC_ok))
def f30_cx (R_f46 : f46_R) (R_f38 : f38_R) (hR_f46 : AnsOk Try.prog 46 (f46_cOf R_f46)) (hR_f38 : AnsOk Try.prog 38 (f38_cOf R_f38)) : Cx := mkCx (tabOf rows) (f30_C R_f46 R_f38) md (cmpIn cmps) f30_plan (f30_Cok R_f46 R_f38 hR_f46 hR_f38)
def f30_T {X : Type} (R_f46 : f46_R) (R_f38 : f38_R) (k : Nat) (K : Int × Nat × Int × (List CV) × Int × (List CV) → Option X)  (x0 : Int) (x1 : Int) (x2 : List CV) (x3 : Int) : Option X :=
grd (decide (0 ≤ x3)) <|
Option.bind (x2)[(Int.toNat x3)]? fun e1 =>
grd (CV.isI .u8 e1) <|
(bif ((Int.fdiv (IntKind.wrap .i64 (CV.toI e1)) (2 ^ 4)) == 15) then
K (0, 0, 20, x2, x3, (List.take 0 []))
else
(bif ((bop .and .i64 (IntKind.wrap .i64 (CV.toI e1)) 15) == 15) then
K (0, 0, 20, x2, x3, (List.take 0 []))
else
R_f46 _ (fun u2 =>
(bif (!u2.2.1) then
K (0, 0, 20, u2.2.2.1, u2.2.2.2, (List.take 0 []))
else
R_f46 _ (fun u3 =>
(bif (!u3.2.1) then
K (0, 0, 20, u3.2.2.1, u3.2.2.2, (List.take 0 []))
else
(bif (x1 == 24) then
K (0, 0, 3, u3.2.2.1, u3.2.2.2, (List.take 0 []))
else
(bif (decide ((IntKind.wrap .i64 (x0 + u2.1)) > 65535)) then
K (0, 0, 1, u3.2.2.1, u3.2.2.2, (List.take 0 []))
else
(bif (decide (u3.1 > 300)) then
K (0, 0, 2, u3.2.2.1, u3.2.2.2, (List.take 0 []))
else
(bif (decide (u3.1 > (IntKind.wrap .i64 ((Nat.cast ((List.length u3.2.2.1)) : Int) - u3.2.2.2)))) then
K (0, 0, 20, u3.2.2.1, u3.2.2.2, (List.take 0 []))
else
grd (decide (0 ≤ u3.2.2.2)) <|
grd (decide (u3.2.2.2 ≤ (IntKind.wrap .i64 (u3.2.2.2 + u3.1)))) <|
grd (decide ((IntKind.wrap .i64 (u3.2.2.2 + u3.1)) ≤ (Nat.cast ((List.length u3.2.2.1)) : Int))) <|
R_f38 _ (fun u4 =>
K ((IntKind.wrap .i64 (x0 + u2.1)), (List.length u4), 0, u3.2.2.1, (IntKind.wrap .i64 (u3.2.2.2 + u3.1)), (List.take (0 + (List.length u4)) u4))) ((List.take ((Int.toNat (IntKind.wrap .i64 (u3.2.2.2 + u3.1))) - (Int.toNat u3.2.2.2)) (List.drop (Int.toNat u3.2.2.2) u3.2.2.1))))))))) ((bop .and .i64 (IntKind.wrap .i64 (CV.toI e1)) 15)) (u2.2.2.1) (u2.2.2.2))) ((Int.fdiv (IntKind.wrap .i64 (CV.toI e1)) (2 ^ 4))) (x2) ((IntKind.wrap .i64 (x3 + 1)))))
/-- "(*outpost/opt.reader).option" -/
def f30_A (R_f46 : f46_R) (R_f38 : f38_R) (k : Nat) : f30_R := fun X K x0 x1 x2 x3 => f30_T R_f46 R_f38 k K  x0 x1 x2 x3
set_option maxRecDepth 100000 in
theorem f30_ev' {X : Type} (R_f46 : f46_R) (R_f38 : f38_R) (hR_f46 : AnsOk Try.prog 46 (f46_cOf R_f46)) (hR_f38 : AnsOk Try.prog 38 (f38_cOf R_f38)) (k : Nat) (K : Out → Option X) (x0 : Int) (x1 : Int) (x2 : List CV) (x3 : Int) : evFn (f30_cx R_f46 R_f38 hR_f46 hR_f38) [] k Try.f30.ntmps Try.f30.results.toList (Try.f30.body.getD .skip) [(.ptr [1000] 0 0 0), (.v (CV.int .i64 x0)), (.v (CV.int .i64 x1))] [([1000], (.obj [(.sl true none x2), (.v (CV.int .i64 x3))]))] K = f30_T R_f46 R_f38 k (fun u => K (f30_out u)) x0 x1 x2 x3 := by kernel_rfl
theorem f30_ev {X : Type} (R_f46 : f46_R) (R_f38 : f38_R) (hR_f46 : AnsOk Try.prog 46 (f46_cOf R_f46)) (hR_f38 : AnsOk Try.prog 38 (f38_cOf R_f38)) (k : Nat) (K : Out → Option X) (x0 : Int) (x1 : Int) (x2 : List CV) (x3 : Int) : evFn (f30_cx R_f46 R_f38 hR_f46 hR_f38) [] k Try.f30.ntmps Try.f30.results.toList (Try.f30.body.getD .skip) [(.ptr [1000] 0 0 0), (.v (CV.int .i64 x0)), (.v (CV.int .i64 x1))] [([1000], (.obj [(.sl true none x2), (.v (CV.int .i64 x3))]))] K = f30_A R_f46 R_f38 k X (fun u => K (f30_out u)) x0 x1 x2 x3 := (f30_ev' R_f46 R_f38 hR_f46 hR_f38 k K x0 x1 x2 x3).trans rfl
theorem f30_okA (R_f46 : f46_R) (R_f38 : f38_R) (hR_f46 : AnsOk Try.prog 46 (f46_cOf R_f46)) (hR_f38 : AnsOk Try.prog 38 (f38_cOf R_f38)) (k : Nat) : AnsOk Try.prog 30 (f30_cOf (f30_A R_f46 R_f38 k)) := by
  intro X xs ns K x h
  unfold f30_cOf at h ⊢
  split at h
  · exact ans_main S (f30_Cok R_f46 R_f38 hR_f46 hR_f38) Try.func30 (ent_of Try.func30 (by kernel_rfl) rfl) rfl (fun X K => f30_ev R_f46 R_f38 hR_f46 hR_f38 k K _ _ _ _) h
  · cases h
/-- "(*outpost/opt.reader).option" -/
def f30 {X : Type} (k : Nat) (K : Int × Nat × Int × (List CV) × Int × (List CV) → Option X) (x0 : Int) (x1 : Int) (x2 : List CV) (x3 : Int) : Option X := f30_A (fun X => @f46 X k) (fun X => @f38 X k) k X K x0 x1 x2 x3
theorem f30_ok (k : Nat) : AnsOk Try.prog 30 (f30_cOf (fun X => @f30 X k)) := f30_okA (fun X => @f46 X k) (fun X => @f38 X k) (f46_ok k) (f38_ok k) k
abbrev f13_R : Type 1 := (X : Type) → (Nat × Int × Int × (List CV) → Option X) → (List CV) → Option X
def f13_out (u : Nat × Int × Int × (List CV)) : Out := ⟨(.tup [(.osl [0, 2000] (some 2) 0 u.1), (.v (CV.int .i64 u.2.1)), (.v (CV.int .i64 u.2.2.1))]), [([0, 2000], (.row false (some 2) u.2.2.2))]⟩
def f13_cOf (R : f13_R) : FnC := fun X xs ns K => match xs, ns with
  | [(.sl true none x0)], [] => R X (fun u => K (f13_out u)) x0
  | _, _ => none
def f13_plan : Nat → Option (List Nat × List Wk)
  | 0 => some ([0], [])
  | 1 => some ([0], [])
  | 2 => some ([0, 5], [])
  | 3 => some ([0, 5, 6], [])
  | 4 => some ([0, 5, 6, 7], [⟨6, [], some [6]⟩])
  | 5 => some ([0, 5, 6, 7], [])
  | 6 => some ([0, 5, 6, 8, 9], [])
  | 7 => some ([9], [])
  | 8 => some ([0, 5, 6, 8], [])
  | 9 => some ([0, 5, 6, 8], [])
  | 10 => some ([5, 6], [])
  | _ => none
def f13_C (R_f30 : f30_R) : Fns := (orC 30 (f30_cOf R_f30) noC)
theorem f13_Cok (R_f30 : f30_R) (hR_f30 : AnsOk Try.prog 30 (f30_cOf R_f30)) : CsOk Try.prog (f13_C R_f30) := (orC_ok hR_f30 noC_ok)
def f13_cx (R_f30 : f30_R) (hR_f30 : AnsOk Try.prog 30 (f30_cOf R_f30)) : Cx := mkCx (tabOf rows) (f13_C R_f30) md (cmpIn cmps) f13_plan (f13_Cok R_f30 hR_f30)
def f13_S1 (v : (List CV) × Nat × Int × (List CV) × (List CV) × Int) : St := ⟨[(.sl true none v.1), .undef, .undef, .undef, .undef, (.ptr [12] 0 0 0), (.osl [6] (some 2) 0 v.2.1), (.v (CV.int .i64 v.2.2.1)), .undef, .undef, .undef, .undef, .undef, .undef, .undef, .undef, .undef, .undef, .undef, .undef, .undef, .undef, .undef, .undef, .undef, .undef, .undef, .undef, .undef, .undef, .undef, .undef, .undef, .undef, .undef, .undef, .undef, .undef, .undef, .undef, .undef, .undef, .undef, .undef, .undef, .undef, .undef, .undef, .undef, .undef, .undef, .undef], [([6], (.row false (some 2) v.2.2.2.1)), ([12], (.obj [(.sl true none v.2.2.2.2.1), (.v (CV.int .i64 v.2.2.2.2.2))]))]⟩
def f13_T1 {X : Type} (R_f30 : f30_R) (k : Nat) (K : Nat × Int × Int × (List CV) → Option X)   (rec1 : (List CV) × Nat × Int × (List CV) × (List CV) × Int → Option X) (v6_0 : (List CV) × Nat × Int × (List CV) × (List CV) × Int) : Option X :=
(bif (decide (v6_0.2.2.2.2.2 < (Nat.cast ((List.length v6_0.1)) : Int))) then
grd (decide (0 ≤ v6_0.2.2.2.2.2)) <|
Option.bind (v6_0.1)[(Int.toNat v6_0.2.2.2.2.2)]? fun e6 =>
grd (CV.isI .u8 e6) <|
(bif ((CV.toI e6) != 255) then
R_f30 _ (fun u7 =>
(bif (u7.2.2.1 != 0) then
K (0, 0, u7.2.2.1, (List.take 0 []))
else
grd (decide ((v6_0.2.1 + (List.length (List.take 1 (List.drop 0 [(CV.agg [(CV.int .i64 u7.1), (CV.slc none (List.take u7.2.1 (List.drop 0 u7.2.2.2.2.2)))])])))) * 32 ≤ 140737488355328)) <|
rec1 (v6_0.1, (v6_0.2.1 + (List.length (List.take 1 (List.drop 0 [(CV.agg [(CV.int .i64 u7.1), (CV.slc none (List.take u7.2.1 (List.drop 0 u7.2.2.2.2.2)))])])))), u7.1, ((List.take v6_0.2.1 v6_0.2.2.2.1) ++ (List.take 1 (List.drop 0 [(CV.agg [(CV.int .i64 u7.1), (CV.slc none (List.take u7.2.1 (List.drop 0 u7.2.2.2.2.2)))])]))), u7.2.2.2.1, u7.2.2.2.2.1))) (v6_0.2.2.1) ((Nat.cast (v6_0.2.1) : Int)) (v6_0.2.2.2.2.1) (v6_0.2.2.2.2.2)
else
K (v6_0.2.1, v6_0.2.2.2.2.2, 0, (List.take (0 + v6_0.2.1) v6_0.2.2.2.1)))
else
K (v6_0.2.1, v6_0.2.2.2.2.2, 0, (List.take (0 + v6_0.2.1) v6_0.2.2.2.1)))
def f13_L1 {X : Type} (R_f30 : f30_R) (k : Nat) (K : Nat × Int × Int × (List CV) → Option X)  (rec1 : (List CV) × Nat × Int × (List CV) × (List CV) × Int → Option X) (v : (List CV) × Nat × Int × (List CV) × (List CV) × Int) : Option X := f13_T1 R_f30 k K   rec1 v
set_option maxRecDepth 100000 in
theorem f13_L1_ev {X : Type} (R_f30 : f30_R) (hR_f30 : AnsOk Try.prog 30 (f30_cOf R_f30)) (k : Nat) (K : Out → Option X)  (r1 : St → Option X) (v : (List CV) × Nat × Int × (List CV) × (List CV) × Int) : loopB (f13_cx R_f30 hR_f30) k [.r, .r, .r, .r, .l, .b] (Try.f13.body.getD .skip) (retK (f13_cx R_f30 hR_f30) [⟨0, [0], some [0, 2000]⟩] Try.f13.results.toList K) [] r1 (f13_S1 v) = f13_T1 R_f30 k (fun u => K (f13_out u))   (fun v => r1 (f13_S1 v)) v := by kernel_rfl
theorem f13_L1_it {X : Type} (R_f30 : f30_R) (hR_f30 : AnsOk Try.prog 30 (f30_cOf R_f30)) (k : Nat) (K : Out → Option X)  : (fun v => iter (loopB (f13_cx R_f30 hR_f30) k [.r, .r, .r, .r, .l, .b] (Try.f13.body.getD .skip) (retK (f13_cx R_f30 hR_f30) [⟨0, [0], some [0, 2000]⟩] Try.f13.results.toList K) []) k (f13_S1 v)) = iterV (f13_L1 R_f30 k (fun u => K (f13_out u)) ) k :=
  iter_map (fun r1 v => (f13_L1_ev R_f30 hR_f30 k K  r1 v).trans rfl) k
def f13_T {X : Type} (R_f30 : f30_R) (k : Nat) (K : Nat × Int × Int × (List CV) → Option X) (loop1 : (List CV) × Nat × Int × (List CV) × (List CV) × Int → Option X) (x0 : List CV) : Option X :=
loop1 (x0, 0, 0, [], x0, 0)
/-- "outpost/opt.Read" -/
def f13_A (R_f30 : f30_R) (k : Nat) : f13_R := fun X K x0 => f13_T R_f30 k K (iterV (f13_L1 R_f30 k K) k) x0
set_option maxRecDepth 100000 in
theorem f13_ev' {X : Type} (R_f30 : f30_R) (hR_f30 : AnsOk Try.prog 30 (f30_cOf R_f30)) (k : Nat) (K : Out → Option X) (x0 : List CV) : evFn (f13_cx R_f30 hR_f30) [⟨0, [0], some [0, 2000]⟩] k Try.f13.ntmps Try.f13.results.toList (Try.f13.body.getD .skip) [(.sl true none x0)] [] K = f13_T R_f30 k (fun u => K (f13_out u)) (fun v => iter (loopB (f13_cx R_f30 hR_f30) k [.r, .r, .r, .r, .l, .b] (Try.f13.body.getD .skip) (retK (f13_cx R_f30 hR_f30) [⟨0, [0], some [0, 2000]⟩] Try.f13.results.toList K) []) k (f13_S1 v)) x0 := by kernel_rfl
theorem f13_ev {X : Type} (R_f30 : f30_R) (hR_f30 : AnsOk Try.prog 30 (f30_cOf R_f30)) (k : Nat) (K : Out → Option X) (x0 : List CV) : evFn (f13_cx R_f30 hR_f30) [⟨0, [0], some [0, 2000]⟩] k Try.f13.ntmps Try.f13.results.toList (Try.f13.body.getD .skip) [(.sl true none x0)] [] K = f13_A R_f30 k X (fun u => K (f13_out u)) x0 := (f13_ev' R_f30 hR_f30 k K x0).trans (by rw [f13_L1_it R_f30 hR_f30 k K]; rfl)
theorem f13_okA (R_f30 : f30_R) (hR_f30 : AnsOk Try.prog 30 (f30_cOf R_f30)) (k : Nat) : AnsOk Try.prog 13 (f13_cOf (f13_A R_f30 k)) := by
  intro X xs ns K x h
  unfold f13_cOf at h ⊢
  split at h
  · exact ans_main S (f13_Cok R_f30 hR_f30) Try.func13 (ent_of Try.func13 (by kernel_rfl) rfl) rfl (fun X K => f13_ev R_f30 hR_f30 k K _) h
  · cases h
/-- "outpost/opt.Read" -/
def f13 {X : Type} (k : Nat) (K : Nat × Int × Int × (List CV) → Option X) (x0 : List CV) : Option X := f13_A (fun X => @f30 X k) k X K x0
theorem f13_ok (k : Nat) : AnsOk Try.prog 13 (f13_cOf (fun X => @f13 X k)) := f13_okA (fun X => @f30 X k) (f30_ok k) k
abbrev f21_R : Type 1 := (X : Type) → (Nat × (List CV) → Option X) → (List CV) → Int → Option X
def f21_out (u : Nat × (List CV)) : Out := ⟨(.osl [2000] none 0 u.1), [([2000], (.row false none u.2))]⟩
def f21_cOf (R : f21_R) : FnC := fun X xs ns K => match xs, ns with
  | [(.sl false (some 2) x0), (.v (CV.int .i64 x1))], [] => R X (fun u => K (f21_out u)) x0 x1
  | _, _ => none
def f21_plan : Nat → Option (List Nat × List Wk)
  | 0 => some ([0, 1], [])
  | 1 => some ([0, 1], [])
  | 2 => some ([0, 1, 5], [])
  | 3 => some ([1, 5, 8, 9, 10], [⟨5, [], some [5]⟩])
  | 4 => some ([1, 5, 8, 9, 10], [])
  | 5 => some ([1, 5, 7, 8, 9, 10], [])
  | 6 => some ([1, 5, 7, 8, 9, 10], [])
  | 7 => some ([1, 5, 8, 9, 10], [⟨5, [], some [5]⟩])
  | 8 => some ([5], [])
  | _ => none
def f21_C (R_f38 : f38_R) : Fns := (orC 38 (f38_cOf R_f38) noC)
theorem f21_Cok (R_f38 : f38_R) (hR_f38 : AnsOk Try.prog 38 (f38_cOf R_f38)) : CsOk Try.prog (f21_C R_f38) := (orC_ok hR_f38 noC_ok)
def f21_cx (R_f38 : f38_R) (hR_f38 : AnsOk Try.prog 38 (f38_cOf R_f38)) : Cx := mkCx (tabOf rows) (f21_C R_f38) md (cmpIn cmps) f21_plan (f21_Cok R_f38 hR_f38)
def f21_S1 (v : Int × Nat × (List CV) × Int × Int × (List CV)) : St := ⟨[.undef, (.v (CV.int .i64 v.1)), .undef, .undef, .undef, (.osl [5] none 0 v.2.1), .undef, .undef, (.sl false (some 2) v.2.2.1), (.v (CV.int .i64 v.2.2.2.1)), (.v (CV.int .i64 v.2.2.2.2.1)), .undef, .undef, .undef, .undef, .undef, .undef, .undef, .undef, .undef, .undef, .undef, .undef, .undef, .undef, .undef], [([5], (.row false none v.2.2.2.2.2))]⟩
def f21_J1 {X : Type} (R_f38 : f38_R) (k : Nat) (K : Nat × (List CV) → Option X) (rec1 : Int × Nat × (List CV) × Int × Int × (List CV) → Option X) (v5_0 : Int × Nat × (List CV) × Int × Int × (List CV)) (v8 : Nat × (List CV)) : Option X :=
rec1 (v5_0.1, v8.1, v5_0.2.2.1, v5_0.2.2.2.1, (IntKind.wrap .i64 (v5_0.2.2.2.2.1 + 1)), v8.2)
def f21_T1 {X : Type} (R_f38 : f38_R) (k : Nat) (K : Nat × (List CV) → Option X)   (rec1 : Int × Nat × (List CV) × Int × Int × (List CV) → Option X) (v5_0 : Int × Nat × (List CV) × Int × Int × (List CV)) : Option X :=
(bif (decide (v5_0.2.2.2.2.1 < v5_0.2.2.2.1)) then
grd (decide (0 ≤ v5_0.2.2.2.2.1)) <|
Option.bind (v5_0.2.2.1)[(Int.toNat v5_0.2.2.2.2.1)]? fun e9 =>
grd (CV.isA 2 e9) <|
grd (CV.isI .i64 (CV.cellD 0 e9)) <|
grd (CV.isL none (CV.cellD 1 e9)) <|
(bif ((CV.toI (CV.cellD 0 e9)) == v5_0.1) then
R_f38 _ (fun u10 =>
grd (decide ((v5_0.2.1 + (List.length (List.take 1 (List.drop 0 [(CV.slc none (List.take (List.length u10) (List.drop 0 u10)))])))) * 24 ≤ 140737488355328)) <|
f21_J1 R_f38 k K rec1 v5_0 ((v5_0.2.1 + (List.length (List.take 1 (List.drop 0 [(CV.slc none (List.take (List.length u10) (List.drop 0 u10)))])))), ((List.take v5_0.2.1 v5_0.2.2.2.2.2) ++ (List.take 1 (List.drop 0 [(CV.slc none (List.take (List.length u10) (List.drop 0 u10)))]))))) ((CV.toL (CV.cellD 1 e9)))
else
f21_J1 R_f38 k K rec1 v5_0 (v5_0.2.1, v5_0.2.2.2.2.2))
else
K (v5_0.2.1, (List.take (0 + v5_0.2.1) v5_0.2.2.2.2.2)))
def f21_L1 {X : Type} (R_f38 : f38_R) (k : Nat) (K : Nat × (List CV) → Option X)  (rec1 : Int × Nat × (List CV) × Int × Int × (List CV) → Option X) (v : Int × Nat × (List CV) × Int × Int × (List CV)) : Option X := f21_T1 R_f38 k K   rec1 v
set_option maxRecDepth 100000 in
theorem f21_L1_ev {X : Type} (R_f38 : f38_R) (hR_f38 : AnsOk Try.prog 38 (f38_cOf R_f38)) (k : Nat) (K : Out → Option X)  (r1 : St → Option X) (v : Int × Nat × (List CV) × Int × Int × (List CV)) : loopB (f21_cx R_f38 hR_f38) k [.r, .r, .l, .r, .b] (Try.f21.body.getD .skip) (retK (f21_cx R_f38 hR_f38) [] Try.f21.results.toList K) [] r1 (f21_S1 v) = f21_T1 R_f38 k (fun u => K (f21_out u))   (fun v => r1 (f21_S1 v)) v := by kernel_rfl
theorem f21_L1_it {X : Type} (R_f38 : f38_R) (hR_f38 : AnsOk Try.prog 38 (f38_cOf R_f38)) (k : Nat) (K : Out → Option X)  : (fun v => iter (loopB (f21_cx R_f38 hR_f38) k [.r, .r, .l, .r, .b] (Try.f21.body.getD .skip) (retK (f21_cx R_f38 hR_f38) [] Try.f21.results.toList K) []) k (f21_S1 v)) = iterV (f21_L1 R_f38 k (fun u => K (f21_out u)) ) k :=
  iter_map (fun r1 v => (f21_L1_ev R_f38 hR_f38 k K  r1 v).trans rfl) k
def f21_T {X : Type} (R_f38 : f38_R) (k : Nat) (K : Nat × (List CV) → Option X) (loop1 : Int × Nat × (List CV) × Int × Int × (List CV) → Option X) (x0 : List CV) (x1 : Int) : Option X :=
loop1 (x1, 0, x0, (Nat.cast ((List.length x0)) : Int), 0, [])
/-- "outpost/opt.All" -/
def f21_A (R_f38 : f38_R) (k : Nat) : f21_R := fun X K x0 x1 => f21_T R_f38 k K (iterV (f21_L1 R_f38 k K) k) x0 x1
set_option maxRecDepth 100000 in
theorem f21_ev' {X : Type} (R_f38 : f38_R) (hR_f38 : AnsOk Try.prog 38 (f38_cOf R_f38)) (k : Nat) (K : Out → Option X) (x0 : List CV) (x1 : Int) : evFn (f21_cx R_f38 hR_f38) [] k Try.f21.ntmps Try.f21.results.toList (Try.f21.body.getD .skip) [(.sl false (some 2) x0), (.v (CV.int .i64 x1))] [] K = f21_T R_f38 k (fun u => K (f21_out u)) (fun v => iter (loopB (f21_cx R_f38 hR_f38) k [.r, .r, .l, .r, .b] (Try.f21.body.getD .skip) (retK (f21_cx R_f38 hR_f38) [] Try.f21.results.toList K) []) k (f21_S1 v)) x0 x1 := by kernel_rfl
theorem f21_ev {X : Type} (R_f38 : f38_R) (hR_f38 : AnsOk Try.prog 38 (f38_cOf R_f38)) (k : Nat) (K : Out → Option X) (x0 : List CV) (x1 : Int) : evFn (f21_cx R_f38 hR_f38) [] k Try.f21.ntmps Try.f21.results.toList (Try.f21.body.getD .skip) [(.sl false (some 2) x0), (.v (CV.int .i64 x1))] [] K = f21_A R_f38 k X (fun u => K (f21_out u)) x0 x1 := (f21_ev' R_f38 hR_f38 k K x0 x1).trans (by rw [f21_L1_it R_f38 hR_f38 k K]; rfl)
theorem f21_okA (R_f38 : f38_R) (hR_f38 : AnsOk Try.prog 38 (f38_cOf R_f38)) (k : Nat) : AnsOk Try.prog 21 (f21_cOf (f21_A R_f38 k)) := by
  intro X xs ns K x h
  unfold f21_cOf at h ⊢
  split at h
  · exact ans_main S (f21_Cok R_f38 hR_f38) Try.func21 (ent_of Try.func21 (by kernel_rfl) rfl) rfl (fun X K => f21_ev R_f38 hR_f38 k K _ _) h
  · cases h
/-- "outpost/opt.All" -/
def f21 {X : Type} (k : Nat) (K : Nat × (List CV) → Option X) (x0 : List CV) (x1 : Int) : Option X := f21_A (fun X => @f38 X k) k X K x0 x1
theorem f21_ok (k : Nat) : AnsOk Try.prog 21 (f21_cOf (fun X => @f21 X k)) := f21_okA (fun X => @f38 X k) (f38_ok k) k
abbrev f23_R : Type 1 := (X : Type) → ((List CV) × Bool → Option X) → (List CV) → Int → Option X
def f23_out (u : (List CV) × Bool) : Out := ⟨(.tup [(.sl true none u.1), (.v (CV.bool u.2))]), []⟩
def f23_cOf (R : f23_R) : FnC := fun X xs ns K => match xs, ns with
  | [(.sl false (some 2) x0), (.v (CV.int .i64 x1))], [] => R X (fun u => K (f23_out u)) x0 x1
  | _, _ => none
def f23_plan : Nat → Option (List Nat × List Wk)
  | 0 => some ([0, 1], [])
  | 1 => some ([0, 1], [])
  | 2 => some ([6], [])
  | 3 => some ([], [])
  | 4 => some ([6], [])
  | _ => none
def f23_C (R_f21 : f21_R) : Fns := (orC 21 (f21_cOf R_f21) noC)
theorem f23_Cok (R_f21 : f21_R) (hR_f21 : AnsOk Try.prog 21 (f21_cOf R_f21)) : CsOk Try.prog (f23_C R_f21) := (orC_ok hR_f21 noC_ok)
def f23_cx (R_f21 : f21_R) (hR_f21 : AnsOk Try.prog 21 (f21_cOf R_f21)) : Cx := mkCx (tabOf rows) (f23_C R_f21) md (cmpIn cmps) f23_plan (f23_Cok R_f21 hR_f21)
def f23_T {X : Type} (R_f21 : f21_R) (k : Nat) (K : (List CV) × Bool → Option X)  (x0 : List CV) (x1 : Int) : Option X :=
R_f21 _ (fun u1 =>
(bif ((Nat.cast (u1.1) : Int) == 0) then
K ([], false)
else
grd (decide (0 < (Nat.cast (u1.1) : Int))) <|
Option.bind (u1.2)[0]? fun e2 =>
grd (CV.isL none e2) <|
K ((CV.toL e2), true))) (x0) (x1)
/-- "outpost/opt.Get" -/
def f23_A (R_f21 : f21_R) (k : Nat) : f23_R := fun X K x0 x1 => f23_T R_f21 k K  x0 x1
set_option maxRecDepth 100000 in
theorem f23_ev' {X : Type} (R_f21 : f21_R) (hR_f21 : AnsOk Try.prog 21 (f21_cOf R_f21)) (k : Nat) (K : Out → Option X) (x0 : List CV) (x1 : Int) : evFn (f23_cx R_f21 hR_f21) [⟨0, [0], none⟩] k Try.f23.ntmps Try.f23.results.toList (Try.f23.body.getD .skip) [(.sl false (some 2) x0), (.v (CV.int .i64 x1))] [] K = f23_T R_f21 k (fun u => K (f23_out u)) x0 x1 := by kernel_rfl
theorem f23_ev {X : Type} (R_f21 : f21_R) (hR_f21 : AnsOk Try.prog 21 (f21_cOf R_f21)) (k : Nat) (K : Out → Option X) (x0 : List CV) (x1 : Int) : evFn (f23_cx R_f21 hR_f21) [⟨0, [0], none⟩] k Try.f23.ntmps Try.f23.results.toList (Try.f23.body.getD .skip) [(.sl false (some 2) x0), (.v (CV.int .i64 x1))] [] K = f23_A R_f21 k X (fun u => K (f23_out u)) x0 x1 := (f23_ev' R_f21 hR_f21 k K x0 x1).trans rfl
theorem f23_okA (R_f21 : f21_R) (hR_f21 : AnsOk Try.prog 21 (f21_cOf R_f21)) (k : Nat) : AnsOk Try.prog 23 (f23_cOf (f23_A R_f21 k)) := by
  intro X xs ns K x h
  unfold f23_cOf at h ⊢
  split at h
  · exact ans_main S (f23_Cok R_f21 hR_f21) Try.func23 (ent_of Try.func23 (by kernel_rfl) rfl) rfl (fun X K => f23_ev R_f21 hR_f21 k K _ _) h
  · cases h
/-- "outpost/opt.Get" -/
def f23 {X : Type} (k : Nat) (K : (List CV) × Bool → Option X) (x0 : List CV) (x1 : Int) : Option X := f23_A (fun X => @f21 X k) k X K x0 x1
theorem f23_ok (k : Nat) : AnsOk Try.prog 23 (f23_cOf (fun X => @f23 X k)) := f23_okA (fun X => @f21 X k) (f21_ok k) k
abbrev f19_R : Type 1 := (X : Type) → (Int × Bool → Option X) → (List CV) → Option X
def f19_out (u : Int × Bool) : Out := ⟨(.tup [(.v (CV.int .i64 u.1)), (.v (CV.bool u.2))]), []⟩
def f19_cOf (R : f19_R) : FnC := fun X xs ns K => match xs, ns with
  | [(.sl false none x0)], [] => R X (fun u => K (f19_out u)) x0
  | _, _ => none
def f19_plan : Nat → Option (List Nat × List Wk)
  | 0 => some ([0], [])
  | 1 => some ([0], [])
  | 2 => some ([], [])
  | 3 => some ([0], [])
  | 4 => some ([0, 4], [])
  | 5 => some ([4, 10, 11, 12], [])
  | 6 => some ([4, 10, 11, 12], [])
  | 7 => some ([4, 6, 10, 11, 12], [])
  | 8 => some ([4, 10, 11, 12], [])
  | 9 => some ([4], [])
  | _ => none
def f19_C : Fns := noC
theorem f19_Cok : CsOk Try.prog (f19_C) := noC_ok
def f19_cx : Cx := mkCx (tabOf rows) (f19_C) md (cmpIn cmps) f19_plan (f19_Cok)
def f19_S1 (v : Int × (List CV) × Int × Int) : St := ⟨[.undef, .undef, .undef, .undef, (.v (CV.int .i64 v.1)), .undef, .undef, .undef, .undef, .undef, (.sl false none v.2.1), (.v (CV.int .i64 v.2.2.1)), (.v (CV.int .i64 v.2.2.2)), .undef, .undef, .undef, .undef, .undef, .undef, .undef, .undef, .undef, .undef], []⟩
def f19_T1 {X : Type} (k : Nat) (K : Int × Bool → Option X)   (rec1 : Int × (List CV) × Int × Int → Option X) (v6_0 : Int × (List CV) × Int × Int) : Option X :=
(bif (decide (v6_0.2.2.2 < v6_0.2.2.1)) then
grd (decide (0 ≤ v6_0.2.2.2)) <|
Option.bind (v6_0.2.1)[(Int.toNat v6_0.2.2.2)]? fun e5 =>
grd (CV.isI .u8 e5) <|
rec1 ((bop .or .i64 (IntKind.wrap .i64 (v6_0.1 * 2 ^ 8)) (IntKind.wrap .i64 (CV.toI e5))), v6_0.2.1, v6_0.2.2.1, (IntKind.wrap .i64 (v6_0.2.2.2 + 1)))
else
K (v6_0.1, true))
def f19_L1 {X : Type} (k : Nat) (K : Int × Bool → Option X)  (rec1 : Int × (List CV) × Int × Int → Option X) (v : Int × (List CV) × Int × Int) : Option X := f19_T1 k K   rec1 v
set_option maxRecDepth 100000 in
theorem f19_L1_ev {X : Type} (k : Nat) (K : Out → Option X)  (r1 : St → Option X) (v : Int × (List CV) × Int × Int) : loopB (f19_cx) k [.r, .r, .r, .l, .r, .b] (Try.f19.body.getD .skip) (retK (f19_cx) [] Try.f19.results.toList K) [] r1 (f19_S1 v) = f19_T1 k (fun u => K (f19_out u))   (fun v => r1 (f19_S1 v)) v := by kernel_rfl
theorem f19_L1_it {X : Type} (k : Nat) (K : Out → Option X)  : (fun v => iter (loopB (f19_cx) k [.r, .r, .r, .l, .r, .b] (Try.f19.body.getD .skip) (retK (f19_cx) [] Try.f19.results.toList K) []) k (f19_S1 v)) = iterV (f19_L1 k (fun u => K (f19_out u)) ) k :=
  iter_map (fun r1 v => (f19_L1_ev k K  r1 v).trans rfl) k
def f19_T {X : Type} (k : Nat) (K : Int × Bool → Option X) (loop1 : Int × (List CV) × Int × Int → Option X) (x0 : List CV) : Option X :=
(bif (decide ((Nat.cast ((List.length x0)) : Int) > 7)) then
K (0, false)
else
loop1 (0, x0, (Nat.cast ((List.length x0)) : Int), 0))
/-- "outpost/opt.Number" -/
def f19_A (k : Nat) : f19_R := fun X K x0 => f19_T k K (iterV (f19_L1 k K) k) x0
set_option maxRecDepth 100000 in
theorem f19_ev' {X : Type} (k : Nat) (K : Out → Option X) (x0 : List CV) : evFn (f19_cx) [] k Try.f19.ntmps Try.f19.results.toList (Try.f19.body.getD .skip) [(.sl false none x0)] [] K = f19_T k (fun u => K (f19_out u)) (fun v => iter (loopB (f19_cx) k [.r, .r, .r, .l, .r, .b] (Try.f19.body.getD .skip) (retK (f19_cx) [] Try.f19.results.toList K) []) k (f19_S1 v)) x0 := by kernel_rfl
theorem f19_ev {X : Type} (k : Nat) (K : Out → Option X) (x0 : List CV) : evFn (f19_cx) [] k Try.f19.ntmps Try.f19.results.toList (Try.f19.body.getD .skip) [(.sl false none x0)] [] K = f19_A k X (fun u => K (f19_out u)) x0 := (f19_ev' k K x0).trans (by rw [f19_L1_it k K]; rfl)
theorem f19_okA (k : Nat) : AnsOk Try.prog 19 (f19_cOf (f19_A k)) := by
  intro X xs ns K x h
  unfold f19_cOf at h ⊢
  split at h
  · exact ans_main S (f19_Cok) Try.func19 (ent_of Try.func19 (by kernel_rfl) rfl) rfl (fun X K => f19_ev k K _) h
  · cases h
/-- "outpost/opt.Number" -/
def f19 {X : Type} (k : Nat) (K : Int × Bool → Option X) (x0 : List CV) : Option X := f19_A k X K x0
theorem f19_ok (k : Nat) : AnsOk Try.prog 19 (f19_cOf (fun X => @f19 X k)) := f19_okA k
abbrev f22_R : Type 1 := (X : Type) → (Nat × (List CV) → Option X) → (List CV) → Int → Option X
def f22_out (u : Nat × (List CV)) : Out := ⟨(.osl [2000] (some 2) 0 u.1), [([2000], (.row false (some 2) u.2))]⟩
def f22_cOf (R : f22_R) : FnC := fun X xs ns K => match xs, ns with
  | [(.sl false (some 2) x0), (.v (CV.int .i64 x1))], [] => R X (fun u => K (f22_out u)) x0 x1
  | _, _ => none
def f22_plan : Nat → Option (List Nat × List Wk)
  | 0 => some ([0, 1], [])
  | 1 => some ([0, 1], [])
  | 2 => some ([0, 1, 5], [])
  | 3 => some ([1, 5, 8, 9, 10], [⟨5, [], some [5]⟩])
  | 4 => some ([1, 5, 8, 9, 10], [])
  | 5 => some ([1, 5, 7, 8, 9, 10], [])
  | 6 => some ([1, 5, 7, 8, 9, 10], [])
  | 7 => some ([1, 5, 8, 9, 10], [⟨5, [], some [5]⟩])
  | 8 => some ([5], [])
  | _ => none
def f22_C (R_f36 : f36_R) : Fns := (orC 36 (f36_cOf R_f36) noC)
theorem f22_Cok (R_f36 : f36_R) (hR_f36 : AnsOk Try.prog 36 (f36_cOf R_f36)) : CsOk Try.prog (f22_C R_f36) := (orC_ok hR_f36 noC_ok)
def f22_cx (R_f36 : f36_R) (hR_f36 : AnsOk Try.prog 36 (f36_cOf R_f36)) : Cx := mkCx (tabOf rows) (f22_C R_f36) md (cmpIn cmps) f22_plan (f22_Cok R_f36 hR_f36)
def f22_S1 (v : Int × Nat × (List CV) × Int × Int × (List CV)) : St := ⟨[.undef, (.v (CV.int .i64 v.1)), .undef, .undef, .undef, (.osl [5] (some 2) 0 v.2.1), .undef, .undef, (.sl false (some 2) v.2.2.1), (.v (CV.int .i64 v.2.2.2.1)), (.v (CV.int .i64 v.2.2.2.2.1)), .undef, .undef, .undef, .undef, .undef, .undef, .undef, .undef, .undef, .undef, .undef, .undef, .undef, .undef], [([5], (.row false (some 2) v.2.2.2.2.2))]⟩
def f22_J1 {X : Type} (R_f36 : f36_R) (k : Nat) (K : Nat × (List CV) → Option X) (rec1 : Int × Nat × (List CV) × Int × Int × (List CV) → Option X) (v5_0 : Int × Nat × (List CV) × Int × Int × (List CV)) (v8 : Nat × (List CV)) : Option X :=
rec1 (v5_0.1, v8.1, v5_0.2.2.1, v5_0.2.2.2.1, (IntKind.wrap .i64 (v5_0.2.2.2.2.1 + 1)), v8.2)
def f22_T1 {X : Type} (R_f36 : f36_R) (k : Nat) (K : Nat × (List CV) → Option X)   (rec1 : Int × Nat × (List CV) × Int × Int × (List CV) → Option X) (v5_0 : Int × Nat × (List CV) × Int × Int × (List CV)) : Option X :=
(bif (decide (v5_0.2.2.2.2.1 < v5_0.2.2.2.1)) then
grd (decide (0 ≤ v5_0.2.2.2.2.1)) <|
Option.bind (v5_0.2.2.1)[(Int.toNat v5_0.2.2.2.2.1)]? fun e9 =>
grd (CV.isA 2 e9) <|
grd (CV.isI .i64 (CV.cellD 0 e9)) <|
grd (CV.isL none (CV.cellD 1 e9)) <|
(bif ((CV.toI (CV.cellD 0 e9)) != v5_0.1) then
R_f36 _ (fun u10 =>
grd (decide ((v5_0.2.1 + (List.length (List.take 1 (List.drop 0 [(CV.agg [(CV.int .i64 u10.1), (CV.slc none (List.take u10.2.1 (List.drop 0 u10.2.2)))])])))) * 32 ≤ 140737488355328)) <|
f22_J1 R_f36 k K rec1 v5_0 ((v5_0.2.1 + (List.length (List.take 1 (List.drop 0 [(CV.agg [(CV.int .i64 u10.1), (CV.slc none (List.take u10.2.1 (List.drop 0 u10.2.2)))])])))), ((List.take v5_0.2.1 v5_0.2.2.2.2.2) ++ (List.take 1 (List.drop 0 [(CV.agg [(CV.int .i64 u10.1), (CV.slc none (List.take u10.2.1 (List.drop 0 u10.2.2)))])]))))) ((CV.agg [(CV.int .i64 (CV.toI (CV.cellD 0 e9))), (CV.slc none (CV.toL (CV.cellD 1 e9)))]))
else
f22_J1 R_f36 k K rec1 v5_0 (v5_0.2.1, v5_0.2.2.2.2.2))
else
K (v5_0.2.1, (List.take (0 + v5_0.2.1) v5_0.2.2.2.2.2)))
def f22_L1 {X : Type} (R_f36 : f36_R) (k : Nat) (K : Nat × (List CV) → Option X)  (rec1 : Int × Nat × (List CV) × Int × Int × (List CV) → Option X) (v : Int × Nat × (List CV) × Int × Int × (List CV)) : Option X := f22_T1 R_f36 k K   rec1 v
set_option maxRecDepth 100000 in
theorem f22_L1_ev {X : Type} (R_f36 : f36_R) (hR_f36 : AnsOk Try.prog 36 (f36_cOf R_f36)) (k : Nat) (K : Out → Option X)  (r1 : St → Option X) (v : Int × Nat × (List CV) × Int × Int × (List CV)) : loopB (f22_cx R_f36 hR_f36) k [.r, .r, .l, .r, .b] (Try.f22.body.getD .skip) (retK (f22_cx R_f36 hR_f36) [] Try.f22.results.toList K) [] r1 (f22_S1 v) = f22_T1 R_f36 k (fun u => K (f22_out u))   (fun v => r1 (f22_S1 v)) v := by kernel_rfl
theorem f22_L1_it {X : Type} (R_f36 : f36_R) (hR_f36 : AnsOk Try.prog 36 (f36_cOf R_f36)) (k : Nat) (K : Out → Option X)  : (fun v => iter (loopB (f22_cx R_f36 hR_f36) k [.r, .r, .l, .r, .b] (Try.f22.body.getD .skip) (retK (f22_cx R_f36 hR_f36) [] Try.f22.results.toList K) []) k (f22_S1 v)) = iterV (f22_L1 R_f36 k (fun u => K (f22_out u)) ) k :=
  iter_map (fun r1 v => (f22_L1_ev R_f36 hR_f36 k K  r1 v).trans rfl) k
def f22_T {X : Type} (R_f36 : f36_R) (k : Nat) (K : Nat × (List CV) → Option X) (loop1 : Int × Nat × (List CV) × Int × Int × (List CV) → Option X) (x0 : List CV) (x1 : Int) : Option X :=
loop1 (x1, 0, x0, (Nat.cast ((List.length x0)) : Int), 0, [])
/-- "outpost/opt.Without" -/
def f22_A (R_f36 : f36_R) (k : Nat) : f22_R := fun X K x0 x1 => f22_T R_f36 k K (iterV (f22_L1 R_f36 k K) k) x0 x1
set_option maxRecDepth 100000 in
theorem f22_ev' {X : Type} (R_f36 : f36_R) (hR_f36 : AnsOk Try.prog 36 (f36_cOf R_f36)) (k : Nat) (K : Out → Option X) (x0 : List CV) (x1 : Int) : evFn (f22_cx R_f36 hR_f36) [] k Try.f22.ntmps Try.f22.results.toList (Try.f22.body.getD .skip) [(.sl false (some 2) x0), (.v (CV.int .i64 x1))] [] K = f22_T R_f36 k (fun u => K (f22_out u)) (fun v => iter (loopB (f22_cx R_f36 hR_f36) k [.r, .r, .l, .r, .b] (Try.f22.body.getD .skip) (retK (f22_cx R_f36 hR_f36) [] Try.f22.results.toList K) []) k (f22_S1 v)) x0 x1 := by kernel_rfl
theorem f22_ev {X : Type} (R_f36 : f36_R) (hR_f36 : AnsOk Try.prog 36 (f36_cOf R_f36)) (k : Nat) (K : Out → Option X) (x0 : List CV) (x1 : Int) : evFn (f22_cx R_f36 hR_f36) [] k Try.f22.ntmps Try.f22.results.toList (Try.f22.body.getD .skip) [(.sl false (some 2) x0), (.v (CV.int .i64 x1))] [] K = f22_A R_f36 k X (fun u => K (f22_out u)) x0 x1 := (f22_ev' R_f36 hR_f36 k K x0 x1).trans (by rw [f22_L1_it R_f36 hR_f36 k K]; rfl)
theorem f22_okA (R_f36 : f36_R) (hR_f36 : AnsOk Try.prog 36 (f36_cOf R_f36)) (k : Nat) : AnsOk Try.prog 22 (f22_cOf (f22_A R_f36 k)) := by
  intro X xs ns K x h
  unfold f22_cOf at h ⊢
  split at h
  · exact ans_main S (f22_Cok R_f36 hR_f36) Try.func22 (ent_of Try.func22 (by kernel_rfl) rfl) rfl (fun X K => f22_ev R_f36 hR_f36 k K _ _) h
  · cases h
/-- "outpost/opt.Without" -/
def f22 {X : Type} (k : Nat) (K : Nat × (List CV) → Option X) (x0 : List CV) (x1 : Int) : Option X := f22_A (fun X => @f36 X k) k X K x0 x1
theorem f22_ok (k : Nat) : AnsOk Try.prog 22 (f22_cOf (fun X => @f22 X k)) := f22_okA (fun X => @f36 X k) (f36_ok k) k
abbrev f33_R : Type 1 := (X : Type) → ((List CV) → Option X) → Nat → (List CV) → Option X
def f33_out (u : (List CV)) : Out := ⟨(.tup []), [([1000], (.row false none u))]⟩
def f33_cOf (R : f33_R) : FnC := fun X xs ns K => match xs, ns with
  | [(.osl [1000] none 0 x0)], [([1000], (.row false none x1))] => R X (fun u => K (f33_out u)) x0 x1
  | _, _ => none
def f33_plan : Nat → Option (List Nat × List Wk)
  | 0 => some ([0], [])
  | 1 => some ([0, 2, 3], [])
  | 2 => some ([0, 2, 3], [])
  | 3 => some ([0, 2, 3], [])
  | _ => none
def f33_C : Fns := noC
theorem f33_Cok : CsOk Try.prog (f33_C) := noC_ok
def f33_cx : Cx := mkCx (tabOf rows) (f33_C) md (cmpIn cmps) f33_plan (f33_Cok)
def f33_S1 (v : Nat × Int × Int × (List CV)) : St := ⟨[(.osl [1000] none 0 v.1), .undef, (.v (CV.int .i64 v.2.1)), (.v (CV.int .i64 v.2.2.1)), .undef, .undef, .undef, .undef, .undef, .undef, .undef, .undef, .undef, .undef, .undef, .undef, .undef, .undef, .undef, .undef, .undef, .undef, .undef, .undef, .undef, .undef, .undef, .undef], [([1000], (.row false none v.2.2.2))]⟩
def f33_T1 {X : Type} (k : Nat) (K : (List CV) → Option X)   (rec1 : Nat × Int × Int × (List CV) → Option X) (v2_0 : Nat × Int × Int × (List CV)) : Option X :=
(bif (decide (v2_0.2.1 < v2_0.2.2.1)) then
grd (decide (0 ≤ v2_0.2.2.1)) <|
grd (decide (v2_0.2.2.1 < (Nat.cast (v2_0.1) : Int))) <|
Option.bind (v2_0.2.2.2)[(0 + (Int.toNat v2_0.2.2.1))]? fun e8 =>
grd (CV.isI .u8 e8) <|
grd (decide (0 ≤ v2_0.2.1)) <|
grd (decide (v2_0.2.1 < (Nat.cast (v2_0.1) : Int))) <|
Option.bind (v2_0.2.2.2)[(0 + (Int.toNat v2_0.2.1))]? fun e9 =>
grd (CV.isI .u8 e9) <|
grd (decide (0 ≤ v2_0.2.1)) <|
grd (decide (v2_0.2.1 < (Nat.cast (v2_0.1) : Int))) <|
grd (decide ((0 + (Int.toNat v2_0.2.1)) < (List.length v2_0.2.2.2))) <|
grd (decide (0 ≤ v2_0.2.2.1)) <|
grd (decide (v2_0.2.2.1 < (Nat.cast (v2_0.1) : Int))) <|
grd (decide ((0 + (Int.toNat v2_0.2.2.1)) < (List.length (List.set v2_0.2.2.2 (0 + (Int.toNat v2_0.2.1)) (CV.int .u8 (CV.toI e8)))))) <|
rec1 (v2_0.1, (IntKind.wrap .i64 (v2_0.2.1 + 1)), (IntKind.wrap .i64 (v2_0.2.2.1 - 1)), (List.set (List.set v2_0.2.2.2 (0 + (Int.toNat v2_0.2.1)) (CV.int .u8 (CV.toI e8))) (0 + (Int.toNat v2_0.2.2.1)) (CV.int .u8 (CV.toI e9))))
else
K (v2_0.2.2.2))
def f33_L1 {X : Type} (k : Nat) (K : (List CV) → Option X)  (rec1 : Nat × Int × Int × (List CV) → Option X) (v : Nat × Int × Int × (List CV)) : Option X := f33_T1 k K   rec1 v
set_option maxRecDepth 100000 in
theorem f33_L1_ev {X : Type} (k : Nat) (K : Out → Option X)  (r1 : St → Option X) (v : Nat × Int × Int × (List CV)) : loopB (f33_cx) k [.r, .b] (Try.f33.body.getD .skip) (retK (f33_cx) [] Try.f33.results.toList K) [] r1 (f33_S1 v) = f33_T1 k (fun u => K (f33_out u))   (fun v => r1 (f33_S1 v)) v := by kernel_rfl
theorem f33_L1_it {X : Type} (k : Nat) (K : Out → Option X)  : (fun v => iter (loopB (f33_cx) k [.r, .b] (Try.f33.body.getD .skip) (retK (f33_cx) [] Try.f33.results.toList K) []) k (f33_S1 v)) = iterV (f33_L1 k (fun u => K (f33_out u)) ) k :=
  iter_map (fun r1 v => (f33_L1_ev k K  r1 v).trans rfl) k
def f33_T {X : Type} (k : Nat) (K : (List CV) → Option X) (loop1 : Nat × Int × Int × (List CV) → Option X) (x0 : Nat) (x1 : List CV) : Option X :=
loop1 (x0, 0, (IntKind.wrap .i64 ((Nat.cast (x0) : Int) - 1)), x1)
/-- "slices.Reverse[[]byte,byte]" -/
def f33_A (k : Nat) : f33_R := fun X K x0 x1 => f33_T k K (iterV (f33_L1 k K) k) x0 x1
set_option maxRecDepth 100000 in
theorem f33_ev' {X : Type} (k : Nat) (K : Out → Option X) (x0 : Nat) (x1 : List CV) : evFn (f33_cx) [] k Try.f33.ntmps Try.f33.results.toList (Try.f33.body.getD .skip) [(.osl [1000] none 0 x0)] [([1000], (.row false none x1))] K = f33_T k (fun u => K (f33_out u)) (fun v => iter (loopB (f33_cx) k [.r, .b] (Try.f33.body.getD .skip) (retK (f33_cx) [] Try.f33.results.toList K) []) k (f33_S1 v)) x0 x1 := by kernel_rfl
theorem f33_ev {X : Type} (k : Nat) (K : Out → Option X) (x0 : Nat) (x1 : List CV) : evFn (f33_cx) [] k Try.f33.ntmps Try.f33.results.toList (Try.f33.body.getD .skip) [(.osl [1000] none 0 x0)] [([1000], (.row false none x1))] K = f33_A k X (fun u => K (f33_out u)) x0 x1 := (f33_ev' k K x0 x1).trans (by rw [f33_L1_it k K]; rfl)
theorem f33_okA (k : Nat) : AnsOk Try.prog 33 (f33_cOf (f33_A k)) := by
  intro X xs ns K x h
  unfold f33_cOf at h ⊢
  split at h
  · exact ans_main S (f33_Cok) Try.func33 (ent_of Try.func33 (by kernel_rfl) rfl) rfl (fun X K => f33_ev k K _ _) h
  · cases h
/-- "slices.Reverse[[]byte,byte]" -/
def f33 {X : Type} (k : Nat) (K : (List CV) → Option X) (x0 : Nat) (x1 : List CV) : Option X := f33_A k X K x0 x1
theorem f33_ok (k : Nat) : AnsOk Try.prog 33 (f33_cOf (fun X => @f33 X k)) := f33_okA k
abbrev f18_R : Type 1 := (X : Type) → (Nat × (List CV) → Option X) → Int → Option X
def f18_out (u : Nat × (List CV)) : Out := ⟨(.osl [2000] none 0 u.1), [([2000], (.row false none u.2))]⟩
def f18_cOf (R : f18_R) : FnC := fun X xs ns K => match xs, ns with
  | [(.v (CV.int .i64 x0))], [] => R X (fun u => K (f18_out u)) x0
  | _, _ => none
def f18_plan : Nat → Option (List Nat × List Wk)
  | 0 => some ([0], [])
  | 1 => some ([0], [])
  | 2 => some ([0, 3], [⟨3, [], some [3]⟩])
  | 3 => some ([0, 3], [])
  | 4 => some ([0, 3], [])
  | 5 => some ([3], [])
  | 6 => some ([3], [])
  | _ => none
def f18_C (R_f33 : f33_R) : Fns := (orC 33 (f33_cOf R_f33) noC)
theorem f18_Cok (R_f33 : f33_R) (hR_f33 : AnsOk Try.prog 33 (f33_cOf R_f33)) : CsOk Try.prog (f18_C R_f33) := (orC_ok hR_f33 noC_ok)
def f18_cx (R_f33 : f33_R) (hR_f33 : AnsOk Try.prog 33 (f33_cOf R_f33)) : Cx := mkCx (tabOf rows) (f18_C R_f33) md (cmpIn cmps) f18_plan (f18_Cok R_f33 hR_f33)
def f18_S1 (v : Int × Nat × (List CV)) : St := ⟨[(.v (CV.int .i64 v.1)), .undef, .undef, (.osl [3] none 0 v.2.1), .undef, .undef, .undef, .undef, .undef, .undef, .undef, .undef, .undef, .undef, .undef, .undef], [([3], (.row false none v.2.2))]⟩
def f18_T1 {X : Type} (R_f33 : f33_R) (k : Nat) (K : Nat × (List CV) → Option X)   (rec1 : Int × Nat × (List CV) → Option X) (v4_0 : Int × Nat × (List CV)) : Option X :=
(bif (decide (v4_0.1 > 0)) then
grd (decide ((v4_0.2.1 + (List.length (List.take 1 (List.drop 0 [(CV.int .u8 (IntKind.wrap .u8 v4_0.1))])))) * 1 ≤ 140737488355328)) <|
rec1 ((Int.fdiv v4_0.1 (2 ^ 8)), (v4_0.2.1 + (List.length (List.take 1 (List.drop 0 [(CV.int .u8 (IntKind.wrap .u8 v4_0.1))])))), ((List.take v4_0.2.1 v4_0.2.2) ++ (List.take 1 (List.drop 0 [(CV.int .u8 (IntKind.wrap .u8 v4_0.1))]))))
else
R_f33 _ (fun u2 =>
K (v4_0.2.1, (List.take (0 + v4_0.2.1) u2))) (v4_0.2.1) (v4_0.2.2))
def f18_L1 {X : Type} (R_f33 : f33_R) (k : Nat) (K : Nat × (List CV) → Option X)  (rec1 : Int × Nat × (List CV) → Option X) (v : Int × Nat × (List CV)) : Option X := f18_T1 R_f33 k K   rec1 v
set_option maxRecDepth 100000 in
theorem f18_L1_ev {X : Type} (R_f33 : f33_R) (hR_f33 : AnsOk Try.prog 33 (f33_cOf R_f33)) (k : Nat) (K : Out → Option X)  (r1 : St → Option X) (v : Int × Nat × (List CV)) : loopB (f18_cx R_f33 hR_f33) k [.r, .r, .l, .b] (Try.f18.body.getD .skip) (retK (f18_cx R_f33 hR_f33) [] Try.f18.results.toList K) [] r1 (f18_S1 v) = f18_T1 R_f33 k (fun u => K (f18_out u))   (fun v => r1 (f18_S1 v)) v := by kernel_rfl
theorem f18_L1_it {X : Type} (R_f33 : f33_R) (hR_f33 : AnsOk Try.prog 33 (f33_cOf R_f33)) (k : Nat) (K : Out → Option X)  : (fun v => iter (loopB (f18_cx R_f33 hR_f33) k [.r, .r, .l, .b] (Try.f18.body.getD .skip) (retK (f18_cx R_f33 hR_f33) [] Try.f18.results.toList K) []) k (f18_S1 v)) = iterV (f18_L1 R_f33 k (fun u => K (f18_out u)) ) k :=
  iter_map (fun r1 v => (f18_L1_ev R_f33 hR_f33 k K  r1 v).trans rfl) k
def f18_T {X : Type} (R_f33 : f33_R) (k : Nat) (K : Nat × (List CV) → Option X) (loop1 : Int × Nat × (List CV) → Option X) (x0 : Int) : Option X :=
loop1 (x0, 0, [])
/-- "outpost/opt.Uint" -/
def f18_A (R_f33 : f33_R) (k : Nat) : f18_R := fun X K x0 => f18_T R_f33 k K (iterV (f18_L1 R_f33 k K) k) x0
set_option maxRecDepth 100000 in
theorem f18_ev' {X : Type} (R_f33 : f33_R) (hR_f33 : AnsOk Try.prog 33 (f33_cOf R_f33)) (k : Nat) (K : Out → Option X) (x0 : Int) : evFn (f18_cx R_f33 hR_f33) [] k Try.f18.ntmps Try.f18.results.toList (Try.f18.body.getD .skip) [(.v (CV.int .i64 x0))] [] K = f18_T R_f33 k (fun u => K (f18_out u)) (fun v => iter (loopB (f18_cx R_f33 hR_f33) k [.r, .r, .l, .b] (Try.f18.body.getD .skip) (retK (f18_cx R_f33 hR_f33) [] Try.f18.results.toList K) []) k (f18_S1 v)) x0 := by kernel_rfl
theorem f18_ev {X : Type} (R_f33 : f33_R) (hR_f33 : AnsOk Try.prog 33 (f33_cOf R_f33)) (k : Nat) (K : Out → Option X) (x0 : Int) : evFn (f18_cx R_f33 hR_f33) [] k Try.f18.ntmps Try.f18.results.toList (Try.f18.body.getD .skip) [(.v (CV.int .i64 x0))] [] K = f18_A R_f33 k X (fun u => K (f18_out u)) x0 := (f18_ev' R_f33 hR_f33 k K x0).trans (by rw [f18_L1_it R_f33 hR_f33 k K]; rfl)
theorem f18_okA (R_f33 : f33_R) (hR_f33 : AnsOk Try.prog 33 (f33_cOf R_f33)) (k : Nat) : AnsOk Try.prog 18 (f18_cOf (f18_A R_f33 k)) := by
  intro X xs ns K x h
  unfold f18_cOf at h ⊢
  split at h
  · exact ans_main S (f18_Cok R_f33 hR_f33) Try.func18 (ent_of Try.func18 (by kernel_rfl) rfl) rfl (fun X K => f18_ev R_f33 hR_f33 k K _) h
  · cases h
/-- "outpost/opt.Uint" -/
def f18 {X : Type} (k : Nat) (K : Nat × (List CV) → Option X) (x0 : Int) : Option X := f18_A (fun X => @f33 X k) k X K x0
theorem f18_ok (k : Nat) : AnsOk Try.prog 18 (f18_cOf (fun X => @f18 X k)) := f18_okA (fun X => @f33 X k) (f33_ok k) k
abbrev f24_R : Type 1 := (X : Type) → (Bool → Option X) → Int → Option X
def f24_out (u : Bool) : Out := ⟨(.v (CV.bool u)), []⟩
def f24_cOf (R : f24_R) : FnC := fun X xs ns K => match xs, ns with
  | [(.v (CV.int .i64 x0))], [] => R X (fun u => K (f24_out u)) x0
  | _, _ => none
def f24_plan : Nat → Option (List Nat × List Wk)
  | 0 => some ([0], [])
  | 1 => some ([0], [])
  | _ => none
def f24_C : Fns := noC
theorem f24_Cok : CsOk Try.prog (f24_C) := noC_ok
def f24_cx : Cx := mkCx (tabOf rows) (f24_C) md (cmpIn cmps) f24_plan (f24_Cok)
def f24_T {X : Type} (k : Nat) (K : Bool → Option X)  (x0 : Int) : Option X :=
K (((bop .and .i64 x0 1) == 1))
/-- "outpost/opt.Critical" -/
def f24_A (k : Nat) : f24_R := fun X K x0 => f24_T k K  x0
set_option maxRecDepth 100000 in
theorem f24_ev' {X : Type} (k : Nat) (K : Out → Option X) (x0 : Int) : evFn (f24_cx) [] k Try.f24.ntmps Try.f24.results.toList (Try.f24.body.getD .skip) [(.v (CV.int .i64 x0))] [] K = f24_T k (fun u => K (f24_out u)) x0 := by kernel_rfl
theorem f24_ev {X : Type} (k : Nat) (K : Out → Option X) (x0 : Int) : evFn (f24_cx) [] k Try.f24.ntmps Try.f24.results.toList (Try.f24.body.getD .skip) [(.v (CV.int .i64 x0))] [] K = f24_A k X (fun u => K (f24_out u)) x0 := (f24_ev' k K x0).trans rfl
theorem f24_okA (k : Nat) : AnsOk Try.prog 24 (f24_cOf (f24_A k)) := by
  intro X xs ns K x h
  unfold f24_cOf at h ⊢
  split at h
  · exact ans_main S (f24_Cok) Try.func24 (ent_of Try.func24 (by kernel_rfl) rfl) rfl (fun X K => f24_ev k K _) h
  · cases h
/-- "outpost/opt.Critical" -/
def f24 {X : Type} (k : Nat) (K : Bool → Option X) (x0 : Int) : Option X := f24_A k X K x0
theorem f24_ok (k : Nat) : AnsOk Try.prog 24 (f24_cOf (fun X => @f24 X k)) := f24_okA k
abbrev f8_R : Type 1 := (X : Type) → (Bool → Option X) → Option X
def f8_out (u : Bool) : Out := ⟨(.v (CV.bool u)), []⟩
def f8_cOf (R : f8_R) : FnC := fun X xs ns K => match xs, ns with
  | [], [] => R X (fun u => K (f8_out u)) 
  | _, _ => none
def f8_plan : Nat → Option (List Nat × List Wk)
  | 0 => some ([], [])
  | 1 => some ([], [])
  | 2 => some ([1], [])
  | 3 => some ([1, 2, 3], [])
  | 4 => some ([1, 2, 3, 4, 5], [])
  | 5 => some ([1, 2, 3, 4, 5, 6, 7, 8], [])
  | 6 => some ([1, 2, 3, 4, 5, 6, 7, 8, 11], [])
  | 7 => some ([1, 2, 3, 4, 5, 6, 7, 8, 11, 12, 13], [])
  | 8 => some ([1, 2, 3, 4, 5, 6, 7, 8, 11, 12, 13, 14, 15], [])
  | _ => none
def f8_C (R_f20 : f20_R) (R_f10 : f10_R) (R_f16 : f16_R) (R_f13 : f13_R) (R_f23 : f23_R) (R_f19 : f19_R) (R_f21 : f21_R) (R_f22 : f22_R) (R_f18 : f18_R) (R_f24 : f24_R) : Fns := (orC 10 (f10_cOf R_f10) (orC 13 (f13_cOf R_f13) (orC 16 (f16_cOf R_f16) (orC 18 (f18_cOf R_f18) (orC 19 (f19_cOf R_f19) (orC 20 (f20_cOf R_f20) (orC 21 (f21_cOf R_f21) (orC 22 (f22_cOf R_f22) (orC 23 (f23_cOf R_f23) (orC 24 (f24_cOf R_f24) noC))))))))))
theorem f8_Cok (R_f20 : f20_R) (R_f10 : f10_R) (R_f16 : f16_R) (R_f13 : f13_R) (R_f23 : f23_R) (R_f19 : f19_R) (R_f21 : f21_R) (R_f22 : f22_R) (R_f18 : f18_R) (R_f24 : f24_R) (hR_f20 : AnsOk Try.prog 20 (f20_cOf R_f20)) (hR_f10 : AnsOk Try.prog 10 (f10_cOf R_f10)) (hR_f16 : AnsOk Try.prog 16 (f16_cOf R_f16)) (hR_f13 : AnsOk Try.prog 13 (f13_cOf R_f13)) (hR_f23 : AnsOk Try.prog 23 (f23_cOf R_f23)) (hR_f19 : AnsOk Try.prog 19 (f19_cOf R_f19)) (hR_f21 : AnsOk Try.prog 21 (f21_cOf R_f21)) (hR_f22 : AnsOk Try.prog 22 (f22_cOf R_f22)) (hR_f18 : AnsOk Try.prog 18 (f18_cOf R_f18)) (hR_f24 : AnsOk Try.prog 24 (f24_cOf R_f24)) : CsOk Try.prog (f8_C R_f20 R_f10 R_f16 R_f13 R_f23 R_f19 R_f21 R_f22 R_f18 R_f24) := (orC_ok hR_f10 (orC_ok hR_f13 (orC_ok hR_f16 (orC_ok hR_f18 (orC_ok hR_f19 (orC_ok hR_f20 (orC_ok hR_f21 (orC_ok hR_f22 (orC_ok hR_f23 (orC_ok hR_f24 noC_ok))))))))))
def f8_cx (R_f20 : f20_R) (R_f10 : f10_R) (R_f16 : f16_R) (R_f13 : f13_R) (R_f23 : f23_R) (R_f19 : f19_R) (R_f21 : f21_R) (R_f22 : f22_R) (R_f18 : f18_R) (R_f24 : f24_R) (hR_f20 : AnsOk Try.prog 20 (f20_cOf R_f20)) (hR_f10 : AnsOk Try.prog 10 (f10_cOf R_f10)) (hR_f16 : AnsOk Try.prog 16 (f16_cOf R_f16)) (hR_f13 : AnsOk Try.prog 13 (f13_cOf R_f13)) (hR_f23 : AnsOk Try.prog 23 (f23_cOf R_f23)) (hR_f19 : AnsOk Try.prog 19 (f19_cOf R_f19)) (hR_f21 : AnsOk Try.prog 21 (f21_cOf R_f21)) (hR_f22 : AnsOk Try.prog 22 (f22_cOf R_f22)) (hR_f18 : AnsOk Try.prog 18 (f18_cOf R_f18)) (hR_f24 : AnsOk Try.prog 24 (f24_cOf R_f24)) : Cx := mkCx (tabOf rows) (f8_C R_f20 R_f10 R_f16 R_f13 R_f23 R_f19 R_f21 R_f22 R_f18 R_f24) md (cmpIn cmps) f8_plan (f8_Cok R_f20 R_f10 R_f16 R_f13 R_f23 R_f19 R_f21 R_f22 R_f18 R_f24 hR_f20 hR_f10 hR_f16 hR_f13 hR_f23 hR_f19 hR_f21 hR_f22 hR_f18 hR_f24)
def f8_T {X : Type} (R_f20 : f20_R) (R_f10 : f10_R) (R_f16 : f16_R) (R_f13 : f13_R) (R_f23 : f23_R) (R_f19 : f19_R) (R_f21 : f21_R) (R_f22 : f22_R) (R_f18 : f18_R) (R_f24 : f24_R) (k : Nat) (K : Bool → Option X)   : Option X :=
R_f20 _ (fun u1 =>
R_f20 _ (fun u2 =>
R_f10 _ (fun u3 =>
R_f10 _ (fun u4 =>
R_f16 _ (fun u5 =>
grd (decide ((u5.1 + (List.length (List.take 2 (List.drop 0 [(CV.int .u8 255), (CV.int .u8 7)])))) * 1 ≤ 140737488355328)) <|
R_f13 _ (fun u6 =>
R_f13 _ (fun u7 =>
R_f23 _ (fun u8 =>
R_f19 _ (fun u9 =>
(bif (u3.2.1 == 0) then
grd (shEq none none && List.all (List.take u3.1 (List.drop 0 u3.2.2)) (CV.isI .u8)) <|
(bif ((bytesOf (List.take u3.1 (List.drop 0 u3.2.2))).toList == (⟨#[177, 97, 1, 98]⟩ : ByteArray).toList) then
(bif (u4.2.1 == 0) then
(bif ((Nat.cast (u4.1) : Int) == 272) then
grd (decide (0 < (Nat.cast (u4.1) : Int))) <|
Option.bind (u4.2.2)[0]? fun e10 =>
grd (CV.isI .u8 e10) <|
(bif ((CV.toI e10) == 206) then
grd (decide (1 < (Nat.cast (u4.1) : Int))) <|
Option.bind (u4.2.2)[1]? fun e11 =>
grd (CV.isI .u8 e11) <|
(bif ((CV.toI e11) == 0) then
grd (decide (2 < (Nat.cast (u4.1) : Int))) <|
Option.bind (u4.2.2)[2]? fun e12 =>
grd (CV.isI .u8 e12) <|
(bif ((CV.toI e12) == 0) then
(bif (u6.2.2.1 == 0) then
(bif (u6.2.1 == 4) then
(bif ((Nat.cast (u6.1) : Int) == 2) then
(bif (u7.2.2.1 == 20) then
(bif u8.2 then
grd (shEq none none && List.all u8.1 (CV.isI .u8)) <|
(bif ((bytesOf u8.1).toList == (⟨#[97]⟩ : ByteArray).toList) then
R_f21 _ (fun u13 =>
(bif ((Nat.cast (u13.1) : Int) == 2) then
R_f22 _ (fun u14 =>
(bif ((Nat.cast (u14.1) : Int) == 0) then
(bif ((Nat.cast (u2.1) : Int) == 2) then
grd (decide (0 < (Nat.cast (u2.1) : Int))) <|
Option.bind (u2.2)[0]? fun e15 =>
Option.bind (CV.cell e15 0) fun c16 =>
grd (CV.isI .i64 c16) <|
(bif ((CV.toI c16) == 1) then
(bif u9.2 then
(bif (u9.1 == 256) then
R_f18 _ (fun u17 =>
(bif ((Nat.cast (u17.1) : Int) == 2) then
R_f24 _ (fun u18 =>
(bif u18 then
R_f24 _ (fun u19 =>
K ((!u19))) (6)
else
K (false))) (11)
else
K (false))) (256)
else
K (false))
else
K (false))
else
K (false))
else
K (false))
else
K (false))) ((List.take u6.1 (List.drop 0 u6.2.2.2))) (11)
else
K (false))) ((List.take u6.1 (List.drop 0 u6.2.2.2))) (11)
else
K (false))
else
K (false))
else
K (false))
else
K (false))
else
K (false))
else
K (false))
else
K (false))
else
K (false))
else
K (false))
else
K (false))
else
K (false))
else
K (false))
else
K (false))) ((List.take 2 (List.drop 0 [(CV.int .u8 1), (CV.int .u8 0)])))) ((List.take u6.1 (List.drop 0 u6.2.2.2))) (11)) ((List.take 1 (List.drop 0 [(CV.int .u8 240)])))) ((List.take (u5.1 + (List.length (List.take 2 (List.drop 0 [(CV.int .u8 255), (CV.int .u8 7)])))) (List.drop 0 ((List.take u5.1 u5.2) ++ (List.take 2 (List.drop 0 [(CV.int .u8 255), (CV.int .u8 7)]))))))) ((List.take u3.1 (List.drop 0 u3.2.2)))) ((List.take 1 (List.drop 0 [(CV.agg [(CV.int .i64 12), (CV.slc none (List.take 269 (List.drop 0 (List.replicate 269 (CV.int .u8 0)))))])])))) ((List.take 2 (List.drop 0 [(CV.agg [(CV.int .i64 11), (CV.slc none (List.take 1 (List.drop 0 [(CV.int .u8 97)])))]), (CV.agg [(CV.int .i64 11), (CV.slc none (List.take 1 (List.drop 0 [(CV.int .u8 98)])))])])))) ((List.take u1.1 (List.drop 0 u1.2))) (1) ([])) ([]) (11) ((List.take 1 (List.drop 0 [(CV.int .u8 98)])))
/-- "outpost/outpostlaw08.alive" -/
def f8_A (R_f20 : f20_R) (R_f10 : f10_R) (R_f16 : f16_R) (R_f13 : f13_R) (R_f23 : f23_R) (R_f19 : f19_R) (R_f21 : f21_R) (R_f22 : f22_R) (R_f18 : f18_R) (R_f24 : f24_R) (k : Nat) : f8_R := fun X K  => f8_T R_f20 R_f10 R_f16 R_f13 R_f23 R_f19 R_f21 R_f22 R_f18 R_f24 k K  
set_option maxRecDepth 100000 in
theorem f8_ev' {X : Type} (R_f20 : f20_R) (R_f10 : f10_R) (R_f16 : f16_R) (R_f13 : f13_R) (R_f23 : f23_R) (R_f19 : f19_R) (R_f21 : f21_R) (R_f22 : f22_R) (R_f18 : f18_R) (R_f24 : f24_R) (hR_f20 : AnsOk Try.prog 20 (f20_cOf R_f20)) (hR_f10 : AnsOk Try.prog 10 (f10_cOf R_f10)) (hR_f16 : AnsOk Try.prog 16 (f16_cOf R_f16)) (hR_f13 : AnsOk Try.prog 13 (f13_cOf R_f13)) (hR_f23 : AnsOk Try.prog 23 (f23_cOf R_f23)) (hR_f19 : AnsOk Try.prog 19 (f19_cOf R_f19)) (hR_f21 : AnsOk Try.prog 21 (f21_cOf R_f21)) (hR_f22 : AnsOk Try.prog 22 (f22_cOf R_f22)) (hR_f18 : AnsOk Try.prog 18 (f18_cOf R_f18)) (hR_f24 : AnsOk Try.prog 24 (f24_cOf R_f24)) (k : Nat) (K : Out → Option X)  : evFn (f8_cx R_f20 R_f10 R_f16 R_f13 R_f23 R_f19 R_f21 R_f22 R_f18 R_f24 hR_f20 hR_f10 hR_f16 hR_f13 hR_f23 hR_f19 hR_f21 hR_f22 hR_f18 hR_f24) [] k Try.f8.ntmps Try.f8.results.toList (Try.f8.body.getD .skip) [] [] K = f8_T R_f20 R_f10 R_f16 R_f13 R_f23 R_f19 R_f21 R_f22 R_f18 R_f24 k (fun u => K (f8_out u))  := by kernel_rfl
theorem f8_ev {X : Type} (R_f20 : f20_R) (R_f10 : f10_R) (R_f16 : f16_R) (R_f13 : f13_R) (R_f23 : f23_R) (R_f19 : f19_R) (R_f21 : f21_R) (R_f22 : f22_R) (R_f18 : f18_R) (R_f24 : f24_R) (hR_f20 : AnsOk Try.prog 20 (f20_cOf R_f20)) (hR_f10 : AnsOk Try.prog 10 (f10_cOf R_f10)) (hR_f16 : AnsOk Try.prog 16 (f16_cOf R_f16)) (hR_f13 : AnsOk Try.prog 13 (f13_cOf R_f13)) (hR_f23 : AnsOk Try.prog 23 (f23_cOf R_f23)) (hR_f19 : AnsOk Try.prog 19 (f19_cOf R_f19)) (hR_f21 : AnsOk Try.prog 21 (f21_cOf R_f21)) (hR_f22 : AnsOk Try.prog 22 (f22_cOf R_f22)) (hR_f18 : AnsOk Try.prog 18 (f18_cOf R_f18)) (hR_f24 : AnsOk Try.prog 24 (f24_cOf R_f24)) (k : Nat) (K : Out → Option X)  : evFn (f8_cx R_f20 R_f10 R_f16 R_f13 R_f23 R_f19 R_f21 R_f22 R_f18 R_f24 hR_f20 hR_f10 hR_f16 hR_f13 hR_f23 hR_f19 hR_f21 hR_f22 hR_f18 hR_f24) [] k Try.f8.ntmps Try.f8.results.toList (Try.f8.body.getD .skip) [] [] K = f8_A R_f20 R_f10 R_f16 R_f13 R_f23 R_f19 R_f21 R_f22 R_f18 R_f24 k X (fun u => K (f8_out u))  := (f8_ev' R_f20 R_f10 R_f16 R_f13 R_f23 R_f19 R_f21 R_f22 R_f18 R_f24 hR_f20 hR_f10 hR_f16 hR_f13 hR_f23 hR_f19 hR_f21 hR_f22 hR_f18 hR_f24 k K ).trans rfl
theorem f8_okA (R_f20 : f20_R) (R_f10 : f10_R) (R_f16 : f16_R) (R_f13 : f13_R) (R_f23 : f23_R) (R_f19 : f19_R) (R_f21 : f21_R) (R_f22 : f22_R) (R_f18 : f18_R) (R_f24 : f24_R) (hR_f20 : AnsOk Try.prog 20 (f20_cOf R_f20)) (hR_f10 : AnsOk Try.prog 10 (f10_cOf R_f10)) (hR_f16 : AnsOk Try.prog 16 (f16_cOf R_f16)) (hR_f13 : AnsOk Try.prog 13 (f13_cOf R_f13)) (hR_f23 : AnsOk Try.prog 23 (f23_cOf R_f23)) (hR_f19 : AnsOk Try.prog 19 (f19_cOf R_f19)) (hR_f21 : AnsOk Try.prog 21 (f21_cOf R_f21)) (hR_f22 : AnsOk Try.prog 22 (f22_cOf R_f22)) (hR_f18 : AnsOk Try.prog 18 (f18_cOf R_f18)) (hR_f24 : AnsOk Try.prog 24 (f24_cOf R_f24)) (k : Nat) : AnsOk Try.prog 8 (f8_cOf (f8_A R_f20 R_f10 R_f16 R_f13 R_f23 R_f19 R_f21 R_f22 R_f18 R_f24 k)) := by
  intro X xs ns K x h
  unfold f8_cOf at h ⊢
  split at h
  · exact ans_main S (f8_Cok R_f20 R_f10 R_f16 R_f13 R_f23 R_f19 R_f21 R_f22 R_f18 R_f24 hR_f20 hR_f10 hR_f16 hR_f13 hR_f23 hR_f19 hR_f21 hR_f22 hR_f18 hR_f24) Try.func8 (ent_of Try.func8 (by kernel_rfl) rfl) rfl (fun X K => f8_ev R_f20 R_f10 R_f16 R_f13 R_f23 R_f19 R_f21 R_f22 R_f18 R_f24 hR_f20 hR_f10 hR_f16 hR_f13 hR_f23 hR_f19 hR_f21 hR_f22 hR_f18 hR_f24 k K ) h
  · cases h
/-- "outpost/outpostlaw08.alive" -/
def f8 {X : Type} (k : Nat) (K : Bool → Option X)  : Option X := f8_A (fun X => @f20 X k) (fun X => @f10 X k) (fun X => @f16 X k) (fun X => @f13 X k) (fun X => @f23 X k) (fun X => @f19 X k) (fun X => @f21 X k) (fun X => @f22 X k) (fun X => @f18 X k) (fun X => @f24 X k) k X K 
theorem f8_ok (k : Nat) : AnsOk Try.prog 8 (f8_cOf (fun X => @f8 X k)) := f8_okA (fun X => @f20 X k) (fun X => @f10 X k) (fun X => @f16 X k) (fun X => @f13 X k) (fun X => @f23 X k) (fun X => @f19 X k) (fun X => @f21 X k) (fun X => @f22 X k) (fun X => @f18 X k) (fun X => @f24 X k) (f20_ok k) (f10_ok k) (f16_ok k) (f13_ok k) (f23_ok k) (f19_ok k) (f21_ok k) (f22_ok k) (f18_ok k) (f24_ok k) k
abbrev f9_R : Type 1 := (X : Type) → (Bool → Option X) → (List CV) → Option X
def f9_out (u : Bool) : Out := ⟨(.v (CV.bool u)), []⟩
def f9_cOf (R : f9_R) : FnC := fun X xs ns K => match xs, ns with
  | [(.sl false (some 2) x0)], [] => R X (fun u => K (f9_out u)) x0
  | _, _ => none
def f9_plan : Nat → Option (List Nat × List Wk)
  | 0 => some ([0], [])
  | 1 => some ([0], [])
  | 2 => some ([], [])
  | 3 => some ([0], [])
  | 4 => some ([0, 3], [])
  | 5 => some ([0, 3], [])
  | 6 => some ([0, 3], [])
  | 7 => some ([], [])
  | 8 => some ([], [])
  | _ => none
def f9_C : Fns := noC
theorem f9_Cok : CsOk Try.prog (f9_C) := noC_ok
def f9_cx : Cx := mkCx (tabOf rows) (f9_C) md (cmpIn cmps) f9_plan (f9_Cok)
def f9_S1 (v : (List CV) × Int) : St := ⟨[(.sl false (some 2) v.1), .undef, .undef, (.v (CV.int .i64 v.2)), .undef, .undef, .undef, .undef, .undef, .undef, .undef, .undef, .undef, .undef, .undef, .undef, .undef, .undef, .undef, .undef], []⟩
def f9_T1 {X : Type} (k : Nat) (K : Bool → Option X)   (rec1 : (List CV) × Int → Option X) (v5_0 : (List CV) × Int) : Option X :=
(bif (decide (v5_0.2 < (Nat.cast ((List.length v5_0.1)) : Int))) then
grd (decide (0 ≤ v5_0.2)) <|
Option.bind (v5_0.1)[(Int.toNat v5_0.2)]? fun e8 =>
Option.bind (CV.cell e8 1) fun c9 =>
grd (CV.isL none c9) <|
(bif (decide ((Nat.cast ((List.length (CV.toL c9))) : Int) > 400)) then
K (false)
else
rec1 (v5_0.1, (IntKind.wrap .i64 (v5_0.2 + 1))))
else
K (true))
def f9_L1 {X : Type} (k : Nat) (K : Bool → Option X)  (rec1 : (List CV) × Int → Option X) (v : (List CV) × Int) : Option X := f9_T1 k K   rec1 v
set_option maxRecDepth 100000 in
theorem f9_L1_ev {X : Type} (k : Nat) (K : Out → Option X)  (r1 : St → Option X) (v : (List CV) × Int) : loopB (f9_cx) k [.r, .r, .l, .r, .b] (Try.f9.body.getD .skip) (retK (f9_cx) [] Try.f9.results.toList K) [] r1 (f9_S1 v) = f9_T1 k (fun u => K (f9_out u))   (fun v => r1 (f9_S1 v)) v := by kernel_rfl
theorem f9_L1_it {X : Type} (k : Nat) (K : Out → Option X)  : (fun v => iter (loopB (f9_cx) k [.r, .r, .l, .r, .b] (Try.f9.body.getD .skip) (retK (f9_cx) [] Try.f9.results.toList K) []) k (f9_S1 v)) = iterV (f9_L1 k (fun u => K (f9_out u)) ) k :=
  iter_map (fun r1 v => (f9_L1_ev k K  r1 v).trans rfl) k
def f9_T {X : Type} (k : Nat) (K : Bool → Option X) (loop1 : (List CV) × Int → Option X) (x0 : List CV) : Option X :=
(bif (decide ((Nat.cast ((List.length x0)) : Int) > 40)) then
K (false)
else
loop1 (x0, 0))
/-- "outpost/outpostref08.Few" -/
def f9_A (k : Nat) : f9_R := fun X K x0 => f9_T k K (iterV (f9_L1 k K) k) x0
set_option maxRecDepth 100000 in
theorem f9_ev' {X : Type} (k : Nat) (K : Out → Option X) (x0 : List CV) : evFn (f9_cx) [] k Try.f9.ntmps Try.f9.results.toList (Try.f9.body.getD .skip) [(.sl false (some 2) x0)] [] K = f9_T k (fun u => K (f9_out u)) (fun v => iter (loopB (f9_cx) k [.r, .r, .l, .r, .b] (Try.f9.body.getD .skip) (retK (f9_cx) [] Try.f9.results.toList K) []) k (f9_S1 v)) x0 := by kernel_rfl
theorem f9_ev {X : Type} (k : Nat) (K : Out → Option X) (x0 : List CV) : evFn (f9_cx) [] k Try.f9.ntmps Try.f9.results.toList (Try.f9.body.getD .skip) [(.sl false (some 2) x0)] [] K = f9_A k X (fun u => K (f9_out u)) x0 := (f9_ev' k K x0).trans (by rw [f9_L1_it k K]; rfl)
theorem f9_okA (k : Nat) : AnsOk Try.prog 9 (f9_cOf (f9_A k)) := by
  intro X xs ns K x h
  unfold f9_cOf at h ⊢
  split at h
  · exact ans_main S (f9_Cok) Try.func9 (ent_of Try.func9 (by kernel_rfl) rfl) rfl (fun X K => f9_ev k K _) h
  · cases h
/-- "outpost/outpostref08.Few" -/
def f9 {X : Type} (k : Nat) (K : Bool → Option X) (x0 : List CV) : Option X := f9_A k X K x0
theorem f9_ok (k : Nat) : AnsOk Try.prog 9 (f9_cOf (fun X => @f9 X k)) := f9_okA k
abbrev f32_R : Type 1 := (X : Type) → (Nat × (List CV) → Option X) → (List CV) → Int → (List CV) → Option X
def f32_out (u : Nat × (List CV)) : Out := ⟨(.osl [2000] (some 2) 0 u.1), [([2000], (.row false (some 2) u.2))]⟩
def f32_cOf (R : f32_R) : FnC := fun X xs ns K => match xs, ns with
  | [(.sl false (some 2) x0), (.v (CV.int .i64 x1)), (.sl false none x2)], [] => R X (fun u => K (f32_out u)) x0 x1 x2
  | _, _ => none
def f32_plan : Nat → Option (List Nat × List Wk)
  | 0 => some ([0, 1, 2], [])
  | 1 => some ([0, 1, 2], [])
  | 2 => some ([0, 1, 2, 7], [])
  | 3 => some ([0, 1, 2, 7, 8], [])
  | 4 => some ([0, 1, 2, 7, 8, 9], [])
  | 5 => some ([0, 1, 2, 7, 8, 9], [])
  | 6 => some ([0, 1, 2, 7, 8, 9], [])
  | 7 => some ([0, 1, 2, 7, 9], [])
  | 8 => some ([0, 1, 2, 7, 9], [])
  | 9 => some ([0, 1, 2, 7, 8, 9], [])
  | 10 => some ([1, 2, 7, 8], [])
  | 11 => some ([1, 2, 7], [])
  | 12 => some ([7], [])
  | _ => none
def f32_C (R_f16 : f16_R) : Fns := (orC 16 (f16_cOf R_f16) noC)
theorem f32_Cok (R_f16 : f16_R) (hR_f16 : AnsOk Try.prog 16 (f16_cOf R_f16)) : CsOk Try.prog (f32_C R_f16) := (orC_ok hR_f16 noC_ok)
def f32_cx (R_f16 : f16_R) (hR_f16 : AnsOk Try.prog 16 (f16_cOf R_f16)) : Cx := mkCx (tabOf rows) (f32_C R_f16) md (cmpIn cmps) f32_plan (f32_Cok R_f16 hR_f16)
def f32_S1 (v : (List CV) × Int × (List CV) × Nat × Bool × Int × (List CV)) : St := ⟨[(.sl false (some 2) v.1), (.v (CV.int .i64 v.2.1)), (.sl false none v.2.2.1), .undef, .undef, .undef, .undef, (.osl [7] (some 2) 0 v.2.2.2.1), (.v (CV.bool v.2.2.2.2.1)), (.v (CV.int .i64 v.2.2.2.2.2.1)), .undef, .undef, .undef, .undef, .undef, .undef, .undef, .undef, .undef, .undef, .undef, .undef, .undef, .undef, .undef, .undef, .undef, .undef, .undef, .undef, .undef, .undef, .undef, .undef, .undef, .undef, .undef, .undef, .undef, .undef, .undef, .undef, .undef, .undef, .undef, .undef, .undef, .undef, .undef, .undef, .undef, .undef], [([7], (.row false (some 2) v.2.2.2.2.2.2))]⟩
def f32_J1 {X : Type} (R_f16 : f16_R) (k : Nat) (K : Nat × (List CV) → Option X) (rec1 : (List CV) × Int × (List CV) × Nat × Bool × Int × (List CV) → Option X) (v6_0 : (List CV) × Int × (List CV) × Nat × Bool × Int × (List CV)) (v26 : Nat × Bool × (List CV)) : Option X :=
grd (decide (0 ≤ v6_0.2.2.2.2.2.1)) <|
Option.bind (v6_0.1)[(Int.toNat v6_0.2.2.2.2.2.1)]? fun e27 =>
grd (fitSh (some 2) e27) <|
grd (decide ((v26.1 + (List.length (List.take 1 (List.drop 0 [e27])))) * 32 ≤ 140737488355328)) <|
rec1 (v6_0.1, v6_0.2.1, v6_0.2.2.1, (v26.1 + (List.length (List.take 1 (List.drop 0 [e27])))), v26.2.1, (IntKind.wrap .i64 (v6_0.2.2.2.2.2.1 + 1)), ((List.take v26.1 v26.2.2) ++ (List.take 1 (List.drop 0 [e27]))))
def f32_J2 {X : Type} (R_f16 : f16_R) (k : Nat) (K : Nat × (List CV) → Option X)  (v32 : Nat × (List CV)) : Option X :=
K (v32.1, (List.take (0 + v32.1) v32.2))
def f32_T1 {X : Type} (R_f16 : f16_R) (k : Nat) (K : Nat × (List CV) → Option X)   (rec1 : (List CV) × Int × (List CV) × Nat × Bool × Int × (List CV) → Option X) (v6_0 : (List CV) × Int × (List CV) × Nat × Bool × Int × (List CV)) : Option X :=
(bif (decide (v6_0.2.2.2.2.2.1 < (Nat.cast ((List.length v6_0.1)) : Int))) then
(bif (!v6_0.2.2.2.2.1) then
grd (decide (0 ≤ v6_0.2.2.2.2.2.1)) <|
Option.bind (v6_0.1)[(Int.toNat v6_0.2.2.2.2.2.1)]? fun e28 =>
Option.bind (CV.cell e28 0) fun c29 =>
grd (CV.isI .i64 c29) <|
(bif (decide ((CV.toI c29) > v6_0.2.1)) then
R_f16 _ (fun u30 =>
grd (decide ((v6_0.2.2.2.1 + (List.length (List.take 1 (List.drop 0 [(CV.agg [(CV.int .i64 v6_0.2.1), (CV.slc none (List.take u30.1 (List.drop 0 u30.2)))])])))) * 32 ≤ 140737488355328)) <|
f32_J1 R_f16 k K rec1 v6_0 ((v6_0.2.2.2.1 + (List.length (List.take 1 (List.drop 0 [(CV.agg [(CV.int .i64 v6_0.2.1), (CV.slc none (List.take u30.1 (List.drop 0 u30.2)))])])))), true, ((List.take v6_0.2.2.2.1 v6_0.2.2.2.2.2.2) ++ (List.take 1 (List.drop 0 [(CV.agg [(CV.int .i64 v6_0.2.1), (CV.slc none (List.take u30.1 (List.drop 0 u30.2)))])]))))) (v6_0.2.2.1)
else
f32_J1 R_f16 k K rec1 v6_0 (v6_0.2.2.2.1, v6_0.2.2.2.2.1, v6_0.2.2.2.2.2.2))
else
f32_J1 R_f16 k K rec1 v6_0 (v6_0.2.2.2.1, v6_0.2.2.2.2.1, v6_0.2.2.2.2.2.2))
else
(bif (!v6_0.2.2.2.2.1) then
R_f16 _ (fun u33 =>
grd (decide ((v6_0.2.2.2.1 + (List.length (List.take 1 (List.drop 0 [(CV.agg [(CV.int .i64 v6_0.2.1), (CV.slc none (List.take u33.1 (List.drop 0 u33.2)))])])))) * 32 ≤ 140737488355328)) <|
f32_J2 R_f16 k K ((v6_0.2.2.2.1 + (List.length (List.take 1 (List.drop 0 [(CV.agg [(CV.int .i64 v6_0.2.1), (CV.slc none (List.take u33.1 (List.drop 0 u33.2)))])])))), ((List.take v6_0.2.2.2.1 v6_0.2.2.2.2.2.2) ++ (List.take 1 (List.drop 0 [(CV.agg [(CV.int .i64 v6_0.2.1), (CV.slc none (List.take u33.1 (List.drop 0 u33.2)))])]))))) (v6_0.2.2.1)
else
f32_J2 R_f16 k K (v6_0.2.2.2.1, v6_0.2.2.2.2.2.2)))
def f32_L1 {X : Type} (R_f16 : f16_R) (k : Nat) (K : Nat × (List CV) → Option X)  (rec1 : (List CV) × Int × (List CV) × Nat × Bool × Int × (List CV) → Option X) (v : (List CV) × Int × (List CV) × Nat × Bool × Int × (List CV)) : Option X := f32_T1 R_f16 k K   rec1 v
set_option maxRecDepth 100000 in
theorem f32_L1_ev {X : Type} (R_f16 : f16_R) (hR_f16 : AnsOk Try.prog 16 (f16_cOf R_f16)) (k : Nat) (K : Out → Option X)  (r1 : St → Option X) (v : (List CV) × Int × (List CV) × Nat × Bool × Int × (List CV)) : loopB (f32_cx R_f16 hR_f16) k [.r, .r, .r, .l, .r, .b] (Try.f32.body.getD .skip) (retK (f32_cx R_f16 hR_f16) [] Try.f32.results.toList K) [] r1 (f32_S1 v) = f32_T1 R_f16 k (fun u => K (f32_out u))   (fun v => r1 (f32_S1 v)) v := by kernel_rfl
theorem f32_L1_it {X : Type} (R_f16 : f16_R) (hR_f16 : AnsOk Try.prog 16 (f16_cOf R_f16)) (k : Nat) (K : Out → Option X)  : (fun v => iter (loopB (f32_cx R_f16 hR_f16) k [.r, .r, .r, .l, .r, .b] (Try.f32.body.getD .skip) (retK (f32_cx R_f16 hR_f16) [] Try.f32.results.toList K) []) k (f32_S1 v)) = iterV (f32_L1 R_f16 k (fun u => K (f32_out u)) ) k :=
  iter_map (fun r1 v => (f32_L1_ev R_f16 hR_f16 k K  r1 v).trans rfl) k
def f32_T {X : Type} (R_f16 : f16_R) (k : Nat) (K : Nat × (List CV) → Option X) (loop1 : (List CV) × Int × (List CV) × Nat × Bool × Int × (List CV) → Option X) (x0 : List CV) (x1 : Int) (x2 : List CV) : Option X :=
loop1 (x0, x1, x2, 0, false, 0, [])
/-- "outpost/outpostref08.Add" -/
def f32_A (R_f16 : f16_R) (k : Nat) : f32_R := fun X K x0 x1 x2 => f32_T R_f16 k K (iterV (f32_L1 R_f16 k K) k) x0 x1 x2
set_option maxRecDepth 100000 in
theorem f32_ev' {X : Type} (R_f16 : f16_R) (hR_f16 : AnsOk Try.prog 16 (f16_cOf R_f16)) (k : Nat) (K : Out → Option X) (x0 : List CV) (x1 : Int) (x2 : List CV) : evFn (f32_cx R_f16 hR_f16) [] k Try.f32.ntmps Try.f32.results.toList (Try.f32.body.getD .skip) [(.sl false (some 2) x0), (.v (CV.int .i64 x1)), (.sl false none x2)] [] K = f32_T R_f16 k (fun u => K (f32_out u)) (fun v => iter (loopB (f32_cx R_f16 hR_f16) k [.r, .r, .r, .l, .r, .b] (Try.f32.body.getD .skip) (retK (f32_cx R_f16 hR_f16) [] Try.f32.results.toList K) []) k (f32_S1 v)) x0 x1 x2 := by kernel_rfl
theorem f32_ev {X : Type} (R_f16 : f16_R) (hR_f16 : AnsOk Try.prog 16 (f16_cOf R_f16)) (k : Nat) (K : Out → Option X) (x0 : List CV) (x1 : Int) (x2 : List CV) : evFn (f32_cx R_f16 hR_f16) [] k Try.f32.ntmps Try.f32.results.toList (Try.f32.body.getD .skip) [(.sl false (some 2) x0), (.v (CV.int .i64 x1)), (.sl false none x2)] [] K = f32_A R_f16 k X (fun u => K (f32_out u)) x0 x1 x2 := (f32_ev' R_f16 hR_f16 k K x0 x1 x2).trans (by rw [f32_L1_it R_f16 hR_f16 k K]; rfl)
theorem f32_okA (R_f16 : f16_R) (hR_f16 : AnsOk Try.prog 16 (f16_cOf R_f16)) (k : Nat) : AnsOk Try.prog 32 (f32_cOf (f32_A R_f16 k)) := by
  intro X xs ns K x h
  unfold f32_cOf at h ⊢
  split at h
  · exact ans_main S (f32_Cok R_f16 hR_f16) Try.func32 (ent_of Try.func32 (by kernel_rfl) rfl) rfl (fun X K => f32_ev R_f16 hR_f16 k K _ _ _) h
  · cases h
/-- "outpost/outpostref08.Add" -/
def f32 {X : Type} (k : Nat) (K : Nat × (List CV) → Option X) (x0 : List CV) (x1 : Int) (x2 : List CV) : Option X := f32_A (fun X => @f16 X k) k X K x0 x1 x2
theorem f32_ok (k : Nat) : AnsOk Try.prog 32 (f32_cOf (fun X => @f32 X k)) := f32_okA (fun X => @f16 X k) (f16_ok k) k
abbrev f17_R : Type 1 := (X : Type) → (Nat × (List CV) → Option X) → (List CV) → Option X
def f17_out (u : Nat × (List CV)) : Out := ⟨(.osl [2000] (some 2) 0 u.1), [([2000], (.row false (some 2) u.2))]⟩
def f17_cOf (R : f17_R) : FnC := fun X xs ns K => match xs, ns with
  | [(.sl false (some 2) x0)], [] => R X (fun u => K (f17_out u)) x0
  | _, _ => none
def f17_plan : Nat → Option (List Nat × List Wk)
  | 0 => some ([0], [])
  | 1 => some ([0], [])
  | 2 => some ([0, 3], [])
  | 3 => some ([0, 3, 4], [])
  | 4 => some ([0, 3, 4], [])
  | 5 => some ([0, 3, 4], [])
  | 6 => some ([3], [])
  | _ => none
def f17_C (R_f32 : f32_R) : Fns := (orC 32 (f32_cOf R_f32) noC)
theorem f17_Cok (R_f32 : f32_R) (hR_f32 : AnsOk Try.prog 32 (f32_cOf R_f32)) : CsOk Try.prog (f17_C R_f32) := (orC_ok hR_f32 noC_ok)
def f17_cx (R_f32 : f32_R) (hR_f32 : AnsOk Try.prog 32 (f32_cOf R_f32)) : Cx := mkCx (tabOf rows) (f17_C R_f32) md (cmpIn cmps) f17_plan (f17_Cok R_f32 hR_f32)
def f17_S1 (v : (List CV) × Nat × Int × (List CV)) : St := ⟨[(.sl false (some 2) v.1), .undef, .undef, (.osl [3] (some 2) 0 v.2.1), (.v (CV.int .i64 v.2.2.1)), .undef, .undef, .undef, .undef, .undef, .undef, .undef, .undef, .undef, .undef, .undef, .undef, .undef, .undef, .undef, .undef, .undef, .undef, .undef, .undef], [([3], (.row false (some 2) v.2.2.2))]⟩
def f17_T1 {X : Type} (R_f32 : f32_R) (k : Nat) (K : Nat × (List CV) → Option X)   (rec1 : (List CV) × Nat × Int × (List CV) → Option X) (v5_0 : (List CV) × Nat × Int × (List CV)) : Option X :=
(bif (decide (v5_0.2.2.1 < (Nat.cast ((List.length v5_0.1)) : Int))) then
grd (decide (0 ≤ v5_0.2.2.1)) <|
Option.bind (v5_0.1)[(Int.toNat v5_0.2.2.1)]? fun e17 =>
Option.bind (CV.cell e17 0) fun c18 =>
grd (CV.isI .i64 c18) <|
grd (decide (0 ≤ v5_0.2.2.1)) <|
Option.bind (v5_0.1)[(Int.toNat v5_0.2.2.1)]? fun e19 =>
Option.bind (CV.cell e19 1) fun c20 =>
grd (CV.isL none c20) <|
R_f32 _ (fun u21 =>
rec1 (v5_0.1, u21.1, (IntKind.wrap .i64 (v5_0.2.2.1 + 1)), u21.2)) ((List.take v5_0.2.1 (List.drop 0 v5_0.2.2.2))) ((CV.toI c18)) ((CV.toL c20))
else
K (v5_0.2.1, (List.take (0 + v5_0.2.1) v5_0.2.2.2)))
def f17_L1 {X : Type} (R_f32 : f32_R) (k : Nat) (K : Nat × (List CV) → Option X)  (rec1 : (List CV) × Nat × Int × (List CV) → Option X) (v : (List CV) × Nat × Int × (List CV)) : Option X := f17_T1 R_f32 k K   rec1 v
set_option maxRecDepth 100000 in
theorem f17_L1_ev {X : Type} (R_f32 : f32_R) (hR_f32 : AnsOk Try.prog 32 (f32_cOf R_f32)) (k : Nat) (K : Out → Option X)  (r1 : St → Option X) (v : (List CV) × Nat × Int × (List CV)) : loopB (f17_cx R_f32 hR_f32) k [.r, .r, .l, .r, .b] (Try.f17.body.getD .skip) (retK (f17_cx R_f32 hR_f32) [] Try.f17.results.toList K) [] r1 (f17_S1 v) = f17_T1 R_f32 k (fun u => K (f17_out u))   (fun v => r1 (f17_S1 v)) v := by kernel_rfl
theorem f17_L1_it {X : Type} (R_f32 : f32_R) (hR_f32 : AnsOk Try.prog 32 (f32_cOf R_f32)) (k : Nat) (K : Out → Option X)  : (fun v => iter (loopB (f17_cx R_f32 hR_f32) k [.r, .r, .l, .r, .b] (Try.f17.body.getD .skip) (retK (f17_cx R_f32 hR_f32) [] Try.f17.results.toList K) []) k (f17_S1 v)) = iterV (f17_L1 R_f32 k (fun u => K (f17_out u)) ) k :=
  iter_map (fun r1 v => (f17_L1_ev R_f32 hR_f32 k K  r1 v).trans rfl) k
def f17_T {X : Type} (R_f32 : f32_R) (k : Nat) (K : Nat × (List CV) → Option X) (loop1 : (List CV) × Nat × Int × (List CV) → Option X) (x0 : List CV) : Option X :=
loop1 (x0, 0, 0, [])
/-- "outpost/outpostref08.Sorted" -/
def f17_A (R_f32 : f32_R) (k : Nat) : f17_R := fun X K x0 => f17_T R_f32 k K (iterV (f17_L1 R_f32 k K) k) x0
set_option maxRecDepth 100000 in
theorem f17_ev' {X : Type} (R_f32 : f32_R) (hR_f32 : AnsOk Try.prog 32 (f32_cOf R_f32)) (k : Nat) (K : Out → Option X) (x0 : List CV) : evFn (f17_cx R_f32 hR_f32) [] k Try.f17.ntmps Try.f17.results.toList (Try.f17.body.getD .skip) [(.sl false (some 2) x0)] [] K = f17_T R_f32 k (fun u => K (f17_out u)) (fun v => iter (loopB (f17_cx R_f32 hR_f32) k [.r, .r, .l, .r, .b] (Try.f17.body.getD .skip) (retK (f17_cx R_f32 hR_f32) [] Try.f17.results.toList K) []) k (f17_S1 v)) x0 := by kernel_rfl
theorem f17_ev {X : Type} (R_f32 : f32_R) (hR_f32 : AnsOk Try.prog 32 (f32_cOf R_f32)) (k : Nat) (K : Out → Option X) (x0 : List CV) : evFn (f17_cx R_f32 hR_f32) [] k Try.f17.ntmps Try.f17.results.toList (Try.f17.body.getD .skip) [(.sl false (some 2) x0)] [] K = f17_A R_f32 k X (fun u => K (f17_out u)) x0 := (f17_ev' R_f32 hR_f32 k K x0).trans (by rw [f17_L1_it R_f32 hR_f32 k K]; rfl)
theorem f17_okA (R_f32 : f32_R) (hR_f32 : AnsOk Try.prog 32 (f32_cOf R_f32)) (k : Nat) : AnsOk Try.prog 17 (f17_cOf (f17_A R_f32 k)) := by
  intro X xs ns K x h
  unfold f17_cOf at h ⊢
  split at h
  · exact ans_main S (f17_Cok R_f32 hR_f32) Try.func17 (ent_of Try.func17 (by kernel_rfl) rfl) rfl (fun X K => f17_ev R_f32 hR_f32 k K _) h
  · cases h
/-- "outpost/outpostref08.Sorted" -/
def f17 {X : Type} (k : Nat) (K : Nat × (List CV) → Option X) (x0 : List CV) : Option X := f17_A (fun X => @f32 X k) k X K x0
theorem f17_ok (k : Nat) : AnsOk Try.prog 17 (f17_cOf (fun X => @f17 X k)) := f17_okA (fun X => @f32 X k) (f32_ok k) k
abbrev f28_R : Type 1 := (X : Type) → (Int × Nat × (List CV) → Option X) → Int → Option X
def f28_out (u : Int × Nat × (List CV)) : Out := ⟨(.tup [(.v (CV.int .i64 u.1)), (.osl [1, 2000] none 0 u.2.1)]), [([1, 2000], (.row false none u.2.2))]⟩
def f28_cOf (R : f28_R) : FnC := fun X xs ns K => match xs, ns with
  | [(.v (CV.int .i64 x0))], [] => R X (fun u => K (f28_out u)) x0
  | _, _ => none
def f28_plan : Nat → Option (List Nat × List Wk)
  | 0 => some ([0], [])
  | 1 => some ([0], [])
  | 2 => some ([0], [])
  | 3 => some ([0], [])
  | 4 => some ([0], [])
  | 5 => some ([0], [])
  | _ => none
def f28_C : Fns := noC
theorem f28_Cok : CsOk Try.prog (f28_C) := noC_ok
def f28_cx : Cx := mkCx (tabOf rows) (f28_C) md (cmpIn cmps) f28_plan (f28_Cok)
def f28_T {X : Type} (k : Nat) (K : Int × Nat × (List CV) → Option X)  (x0 : Int) : Option X :=
(bif (decide (x0 < 13)) then
K (x0, 0, (List.take 0 []))
else
(bif (decide (x0 < 269)) then
K (13, 1, (List.take 1 [(CV.int .u8 (IntKind.wrap .u8 (IntKind.wrap .i64 (x0 - 13))))]))
else
K (14, 2, (List.take 2 [(CV.int .u8 (IntKind.wrap .u8 (IntKind.wrap .i64 (Int.tdiv (IntKind.wrap .i64 (x0 - 269)) 256)))), (CV.int .u8 (IntKind.wrap .u8 (Int.tmod (IntKind.wrap .i64 (x0 - 269)) 256)))]))))
/-- "outpost/outpostref08.tell" -/
def f28_A (k : Nat) : f28_R := fun X K x0 => f28_T k K  x0
set_option maxRecDepth 100000 in
theorem f28_ev' {X : Type} (k : Nat) (K : Out → Option X) (x0 : Int) : evFn (f28_cx) [] k Try.f28.ntmps Try.f28.results.toList (Try.f28.body.getD .skip) [(.v (CV.int .i64 x0))] [] K = f28_T k (fun u => K (f28_out u)) x0 := by kernel_rfl
theorem f28_ev {X : Type} (k : Nat) (K : Out → Option X) (x0 : Int) : evFn (f28_cx) [] k Try.f28.ntmps Try.f28.results.toList (Try.f28.body.getD .skip) [(.v (CV.int .i64 x0))] [] K = f28_A k X (fun u => K (f28_out u)) x0 := (f28_ev' k K x0).trans rfl
theorem f28_okA (k : Nat) : AnsOk Try.prog 28 (f28_cOf (f28_A k)) := by
  intro X xs ns K x h
  unfold f28_cOf at h ⊢
  split at h
  · exact ans_main S (f28_Cok) Try.func28 (ent_of Try.func28 (by kernel_rfl) rfl) rfl (fun X K => f28_ev k K _) h
  · cases h
/-- "outpost/outpostref08.tell" -/
def f28 {X : Type} (k : Nat) (K : Int × Nat × (List CV) → Option X) (x0 : Int) : Option X := f28_A k X K x0
theorem f28_ok (k : Nat) : AnsOk Try.prog 28 (f28_cOf (fun X => @f28 X k)) := f28_okA k
abbrev f29_R : Type 1 := (X : Type) → (Nat × (List CV) → Option X) → (List CV) → Option X
def f29_out (u : Nat × (List CV)) : Out := ⟨(.osl [2000] none 0 u.1), [([2000], (.row false none u.2))]⟩
def f29_cOf (R : f29_R) : FnC := fun X xs ns K => match xs, ns with
  | [(.sl false none x0)], [] => R X (fun u => K (f29_out u)) x0
  | _, _ => none
def f29_plan : Nat → Option (List Nat × List Wk)
  | 0 => some ([0], [])
  | 1 => some ([0], [])
  | 2 => some ([0, 3], [])
  | 3 => some ([0, 3, 4], [])
  | 4 => some ([0, 3, 4], [])
  | 5 => some ([0, 3, 4], [])
  | 6 => some ([0, 3, 4, 5], [])
  | 7 => some ([0, 3, 4, 5], [])
  | 8 => some ([0, 3, 4, 5], [])
  | 9 => some ([3], [])
  | _ => none
def f29_C : Fns := noC
theorem f29_Cok : CsOk Try.prog (f29_C) := noC_ok
def f29_cx : Cx := mkCx (tabOf rows) (f29_C) md (cmpIn cmps) f29_plan (f29_Cok)
def f29_S1 (v : (List CV) × Nat × Int × (List CV)) : St := ⟨[(.sl false none v.1), .undef, .undef, (.osl [3] none 0 v.2.1), (.v (CV.int .i64 v.2.2.1)), .undef, .undef, .undef, .undef, .undef, .undef, .undef, .undef, .undef, .undef, .undef, .undef, .undef, .undef, .undef, .undef, .undef, .undef, .undef, .undef, .undef, .undef, .undef, .undef, .undef, .undef, .undef, .undef], [([3], (.row false none v.2.2.2))]⟩
def f29_S2 (v : (List CV) × Nat × Int × Int × (List CV)) : St := ⟨[(.sl false none v.1), .undef, .undef, (.osl [3] none 0 v.2.1), (.v (CV.int .i64 v.2.2.1)), (.v (CV.int .i64 v.2.2.2.1)), .undef, .undef, .undef, .undef, .undef, .undef, .undef, .undef, .undef, .undef, .undef, .undef, .undef, .undef, .undef, .undef, .undef, .undef, .undef, .undef, .undef, .undef, .undef, .undef, .undef, .undef, .undef], [([3], (.row false none v.2.2.2.2))]⟩
def f29_T2 {X : Type} (k : Nat) (K : Nat × (List CV) → Option X) (rec1 : (List CV) × Nat × Int × (List CV) → Option X)  (rec2 : (List CV) × Nat × Int × Int × (List CV) → Option X) (v11_14 : (List CV) × Nat × Int × Int × (List CV)) : Option X :=
grd (decide (0 ≤ v11_14.2.2.1)) <|
Option.bind (v11_14.1)[(Int.toNat v11_14.2.2.1)]? fun e23 =>
grd (CV.isL none e23) <|
(bif (decide (v11_14.2.2.2.1 < (Nat.cast ((List.length (CV.toL e23))) : Int))) then
grd (decide (0 ≤ v11_14.2.2.1)) <|
Option.bind (v11_14.1)[(Int.toNat v11_14.2.2.1)]? fun e26 =>
grd (CV.isL none e26) <|
grd (decide (0 ≤ v11_14.2.2.2.1)) <|
Option.bind ((CV.toL e26))[(Int.toNat v11_14.2.2.2.1)]? fun e27 =>
grd (CV.isI .u8 e27) <|
grd (decide ((v11_14.2.1 + (List.length (List.take 1 (List.drop 0 [(CV.int .u8 (CV.toI e27))])))) * 1 ≤ 140737488355328)) <|
rec2 (v11_14.1, (v11_14.2.1 + (List.length (List.take 1 (List.drop 0 [(CV.int .u8 (CV.toI e27))])))), v11_14.2.2.1, (IntKind.wrap .i64 (v11_14.2.2.2.1 + 1)), ((List.take v11_14.2.1 v11_14.2.2.2.2) ++ (List.take 1 (List.drop 0 [(CV.int .u8 (CV.toI e27))]))))
else
rec1 (v11_14.1, v11_14.2.1, (IntKind.wrap .i64 (v11_14.2.2.1 + 1)), v11_14.2.2.2.2))
def f29_L2 {X : Type} (k : Nat) (K : Nat × (List CV) → Option X) (rec1 : (List CV) × Nat × Int × (List CV) → Option X) (rec2 : (List CV) × Nat × Int × Int × (List CV) → Option X) (v : (List CV) × Nat × Int × Int × (List CV)) : Option X := f29_T2 k K rec1  rec2 v
set_option maxRecDepth 100000 in
theorem f29_L2_ev {X : Type} (k : Nat) (K : Out → Option X) (r1 : St → Option X) (r2 : St → Option X) (v : (List CV) × Nat × Int × Int × (List CV)) : loopB (f29_cx) k [.r, .r, .l, .r, .b, .o, .r, .l, .b, .r, .b] (Try.f29.body.getD .skip) (retK (f29_cx) [] Try.f29.results.toList K) [r1] r2 (f29_S2 v) = f29_T2 k (fun u => K (f29_out u)) (fun v => r1 (f29_S1 v))  (fun v => r2 (f29_S2 v)) v := by kernel_rfl
theorem f29_L2_it {X : Type} (k : Nat) (K : Out → Option X) (r1 : St → Option X) : (fun v => iter (loopB (f29_cx) k [.r, .r, .l, .r, .b, .o, .r, .l, .b, .r, .b] (Try.f29.body.getD .skip) (retK (f29_cx) [] Try.f29.results.toList K) [r1]) k (f29_S2 v)) = iterV (f29_L2 k (fun u => K (f29_out u)) (fun v => r1 (f29_S1 v))) k :=
  iter_map (fun r2 v => (f29_L2_ev k K r1 r2 v).trans rfl) k
def f29_T1 {X : Type} (k : Nat) (K : Nat × (List CV) → Option X)  (loop2 : (List CV) × Nat × Int × Int × (List CV) → Option X) (rec1 : (List CV) × Nat × Int × (List CV) → Option X) (v5_0 : (List CV) × Nat × Int × (List CV)) : Option X :=
(bif (decide (v5_0.2.2.1 < (Nat.cast ((List.length v5_0.1)) : Int))) then
loop2 (v5_0.1, v5_0.2.1, v5_0.2.2.1, 0, v5_0.2.2.2)
else
K (v5_0.2.1, (List.take (0 + v5_0.2.1) v5_0.2.2.2)))
def f29_L1 {X : Type} (k : Nat) (K : Nat × (List CV) → Option X)  (rec1 : (List CV) × Nat × Int × (List CV) → Option X) (v : (List CV) × Nat × Int × (List CV)) : Option X := f29_T1 k K  (iterV (f29_L2 k K rec1) k) rec1 v
set_option maxRecDepth 100000 in
theorem f29_L1_ev {X : Type} (k : Nat) (K : Out → Option X)  (r1 : St → Option X) (v : (List CV) × Nat × Int × (List CV)) : loopB (f29_cx) k [.r, .r, .l, .r, .b] (Try.f29.body.getD .skip) (retK (f29_cx) [] Try.f29.results.toList K) [] r1 (f29_S1 v) = f29_T1 k (fun u => K (f29_out u))  (fun v => iter (loopB (f29_cx) k [.r, .r, .l, .r, .b, .o, .r, .l, .b, .r, .b] (Try.f29.body.getD .skip) (retK (f29_cx) [] Try.f29.results.toList K) [r1]) k (f29_S2 v)) (fun v => r1 (f29_S1 v)) v := by kernel_rfl
theorem f29_L1_it {X : Type} (k : Nat) (K : Out → Option X)  : (fun v => iter (loopB (f29_cx) k [.r, .r, .l, .r, .b] (Try.f29.body.getD .skip) (retK (f29_cx) [] Try.f29.results.toList K) []) k (f29_S1 v)) = iterV (f29_L1 k (fun u => K (f29_out u)) ) k :=
  iter_map (fun r1 v => (f29_L1_ev k K  r1 v).trans (by rw [f29_L2_it k K r1]; rfl)) k
def f29_T {X : Type} (k : Nat) (K : Nat × (List CV) → Option X) (loop1 : (List CV) × Nat × Int × (List CV) → Option X) (x0 : List CV) : Option X :=
loop1 (x0, 0, 0, [])
/-- "outpost/outpostref01.Join" -/
def f29_A (k : Nat) : f29_R := fun X K x0 => f29_T k K (iterV (f29_L1 k K) k) x0
set_option maxRecDepth 100000 in
theorem f29_ev' {X : Type} (k : Nat) (K : Out → Option X) (x0 : List CV) : evFn (f29_cx) [] k Try.f29.ntmps Try.f29.results.toList (Try.f29.body.getD .skip) [(.sl false none x0)] [] K = f29_T k (fun u => K (f29_out u)) (fun v => iter (loopB (f29_cx) k [.r, .r, .l, .r, .b] (Try.f29.body.getD .skip) (retK (f29_cx) [] Try.f29.results.toList K) []) k (f29_S1 v)) x0 := by kernel_rfl
theorem f29_ev {X : Type} (k : Nat) (K : Out → Option X) (x0 : List CV) : evFn (f29_cx) [] k Try.f29.ntmps Try.f29.results.toList (Try.f29.body.getD .skip) [(.sl false none x0)] [] K = f29_A k X (fun u => K (f29_out u)) x0 := (f29_ev' k K x0).trans (by rw [f29_L1_it k K]; rfl)
theorem f29_okA (k : Nat) : AnsOk Try.prog 29 (f29_cOf (f29_A k)) := by
  intro X xs ns K x h
  unfold f29_cOf at h ⊢
  split at h
  · exact ans_main S (f29_Cok) Try.func29 (ent_of Try.func29 (by kernel_rfl) rfl) rfl (fun X K => f29_ev k K _) h
  · cases h
/-- "outpost/outpostref01.Join" -/
def f29 {X : Type} (k : Nat) (K : Nat × (List CV) → Option X) (x0 : List CV) : Option X := f29_A k X K x0
theorem f29_ok (k : Nat) : AnsOk Try.prog 29 (f29_cOf (fun X => @f29 X k)) := f29_okA k
abbrev f11_R : Type 1 := (X : Type) → (Nat × Int × (List CV) → Option X) → (List CV) → Option X
def f11_out (u : Nat × Int × (List CV)) : Out := ⟨(.tup [(.osl [0, 2000] none 0 u.1), (.v (CV.int .i64 u.2.1))]), [([0, 2000], (.row false none u.2.2))]⟩
def f11_cOf (R : f11_R) : FnC := fun X xs ns K => match xs, ns with
  | [(.sl false (some 2) x0)], [] => R X (fun u => K (f11_out u)) x0
  | _, _ => none
def f11_plan : Nat → Option (List Nat × List Wk)
  | 0 => some ([0], [])
  | 1 => some ([0], [])
  | 2 => some ([], [])
  | 3 => some ([0], [])
  | 4 => some ([0, 4], [])
  | 5 => some ([0, 4], [])
  | 6 => some ([0, 4], [])
  | 7 => some ([], [])
  | 8 => some ([0], [])
  | 9 => some ([0, 5], [])
  | 10 => some ([0, 5], [])
  | 11 => some ([0, 5], [])
  | 12 => some ([], [])
  | 13 => some ([0], [])
  | 14 => some ([6], [])
  | 15 => some ([6, 7], [])
  | 16 => some ([6, 7, 8], [])
  | 17 => some ([6, 7, 8, 9], [])
  | 18 => some ([6, 7, 8, 9], [])
  | 19 => some ([6, 7, 8, 9], [])
  | 20 => some ([6, 7, 9, 10, 11], [])
  | 21 => some ([6, 7, 9, 10, 11, 12, 13], [])
  | 22 => some ([6, 7, 9], [])
  | 23 => some ([7], [])
  | _ => none
def f11_C (R_f17 : f17_R) (R_f28 : f28_R) (R_f29 : f29_R) : Fns := (orC 17 (f17_cOf R_f17) (orC 28 (f28_cOf R_f28) (orC 29 (f29_cOf R_f29) noC)))
theorem f11_Cok (R_f17 : f17_R) (R_f28 : f28_R) (R_f29 : f29_R) (hR_f17 : AnsOk Try.prog 17 (f17_cOf R_f17)) (hR_f28 : AnsOk Try.prog 28 (f28_cOf R_f28)) (hR_f29 : AnsOk Try.prog 29 (f29_cOf R_f29)) : CsOk Try.prog (f11_C R_f17 R_f28 R_f29) := (orC_ok hR_f17 (orC_ok hR_f28 (orC_ok hR_f29 noC_ok)))
def f11_cx (R_f17 : f17_R) (R_f28 : f28_R) (R_f29 : f29_R) (hR_f17 : AnsOk Try.prog 17 (f17_cOf R_f17)) (hR_f28 : AnsOk Try.prog 28 (f28_cOf R_f28)) (hR_f29 : AnsOk Try.prog 29 (f29_cOf R_f29)) : Cx := mkCx (tabOf rows) (f11_C R_f17 R_f28 R_f29) md (cmpIn cmps) f11_plan (f11_Cok R_f17 R_f28 R_f29 hR_f17 hR_f28 hR_f29)
def f11_S1 (v : (List CV) × Int) : St := ⟨[(.sl false (some 2) v.1), .undef, .undef, .undef, (.v (CV.int .i64 v.2)), .undef, .undef, .undef, .undef, .undef, .undef, .undef, .undef, .undef, .undef, .undef, .undef, .undef, .undef, .undef, .undef, .undef, .undef, .undef, .undef, .undef, .undef, .undef, .undef, .undef, .undef, .undef, .undef, .undef, .undef, .undef, .undef, .undef, .undef, .undef, .undef, .undef, .undef, .undef, .undef, .undef, .undef, .undef, .undef, .undef, .undef, .undef, .undef, .undef, .undef, .undef, .undef, .undef, .undef, .undef, .undef, .undef, .undef, .undef, .undef, .undef, .undef, .undef, .undef, .undef, .undef, .undef, .undef, .undef, .undef, .undef, .undef, .undef, .undef, .undef, .undef, .undef, .undef, .undef, .undef, .undef, .undef, .undef, .undef, .undef, .undef, .undef, .undef, .undef, .undef, .undef, .undef, .undef, .undef, .undef, .undef, .undef], []⟩
def f11_S2 (v : (List CV) × Int) : St := ⟨[(.sl false (some 2) v.1), .undef, .undef, .undef, .undef, (.v (CV.int .i64 v.2)), .undef, .undef, .undef, .undef, .undef, .undef, .undef, .undef, .undef, .undef, .undef, .undef, .undef, .undef, .undef, .undef, .undef, .undef, .undef, .undef, .undef, .undef, .undef, .undef, .undef, .undef, .undef, .undef, .undef, .undef, .undef, .undef, .undef, .undef, .undef, .undef, .undef, .undef, .undef, .undef, .undef, .undef, .undef, .undef, .undef, .undef, .undef, .undef, .undef, .undef, .undef, .undef, .undef, .undef, .undef, .undef, .undef, .undef, .undef, .undef, .undef, .undef, .undef, .undef, .undef, .undef, .undef, .undef, .undef, .undef, .undef, .undef, .undef, .undef, .undef, .undef, .undef, .undef, .undef, .undef, .undef, .undef, .undef, .undef, .undef, .undef, .undef, .undef, .undef, .undef, .undef, .undef, .undef, .undef, .undef, .undef], []⟩
def f11_S3 (v : Nat × Nat × Int × Int × (List CV) × (List CV)) : St := ⟨[.undef, .undef, .undef, .undef, .undef, .undef, (.osl [6] (some 2) 0 v.1), (.osl [7] none 0 v.2.1), (.v (CV.int .i64 v.2.2.1)), (.v (CV.int .i64 v.2.2.2.1)), .undef, .undef, .undef, .undef, .undef, .undef, .undef, .undef, .undef, .undef, .undef, .undef, .undef, .undef, .undef, .undef, .undef, .undef, .undef, .undef, .undef, .undef, .undef, .undef, .undef, .undef, .undef, .undef, .undef, .undef, .undef, .undef, .undef, .undef, .undef, .undef, .undef, .undef, .undef, .undef, .undef, .undef, .undef, .undef, .undef, .undef, .undef, .undef, .undef, .undef, .undef, .undef, .undef, .undef, .undef, .undef, .undef, .undef, .undef, .undef, .undef, .undef, .undef, .undef, .undef, .undef, .undef, .undef, .undef, .undef, .undef, .undef, .undef, .undef, .undef, .undef, .undef, .undef, .undef, .undef, .undef, .undef, .undef, .undef, .undef, .undef, .undef, .undef, .undef, .undef, .undef, .undef], [([6], (.row false (some 2) v.2.2.2.2.1)), ([7], (.row false none v.2.2.2.2.2))]⟩
def f11_T3 {X : Type} (R_f17 : f17_R) (R_f28 : f28_R) (R_f29 : f29_R) (k : Nat) (K : Nat × Int × (List CV) → Option X)   (rec3 : Nat × Nat × Int × Int × (List CV) × (List CV) → Option X) (v10_27 : Nat × Nat × Int × Int × (List CV) × (List CV)) : Option X :=
(bif (decide (v10_27.2.2.2.1 < (Nat.cast (v10_27.1) : Int))) then
grd (decide (0 ≤ v10_27.2.2.2.1)) <|
grd (decide (v10_27.2.2.2.1 < (Nat.cast (v10_27.1) : Int))) <|
Option.bind (v10_27.2.2.2.2.1)[(0 + (Int.toNat v10_27.2.2.2.1))]? fun e62 =>
Option.bind (CV.cell e62 0) fun c63 =>
grd (CV.isI .i64 c63) <|
R_f28 _ (fun u64 =>
grd (decide (0 ≤ v10_27.2.2.2.1)) <|
grd (decide (v10_27.2.2.2.1 < (Nat.cast (v10_27.1) : Int))) <|
Option.bind (v10_27.2.2.2.2.1)[(0 + (Int.toNat v10_27.2.2.2.1))]? fun e65 =>
Option.bind (CV.cell e65 1) fun c66 =>
grd (CV.isL none c66) <|
R_f28 _ (fun u67 =>
grd (decide (0 ≤ v10_27.2.2.2.1)) <|
grd (decide (v10_27.2.2.2.1 < (Nat.cast (v10_27.1) : Int))) <|
Option.bind (v10_27.2.2.2.2.1)[(0 + (Int.toNat v10_27.2.2.2.1))]? fun e68 =>
Option.bind (CV.cell e68 1) fun c69 =>
grd (CV.isL none c69) <|
R_f29 _ (fun u70 =>
grd (decide (0 ≤ v10_27.2.2.2.1)) <|
grd (decide (v10_27.2.2.2.1 < (Nat.cast (v10_27.1) : Int))) <|
Option.bind (v10_27.2.2.2.2.1)[(0 + (Int.toNat v10_27.2.2.2.1))]? fun e71 =>
Option.bind (CV.cell e71 0) fun c72 =>
grd (CV.isI .i64 c72) <|
rec3 (v10_27.1, u70.1, (CV.toI c72), (IntKind.wrap .i64 (v10_27.2.2.2.1 + 1)), v10_27.2.2.2.2.1, u70.2)) ((List.take 5 (List.drop 0 [(CV.slc none (List.take v10_27.2.1 (List.drop 0 v10_27.2.2.2.2.2))), (CV.slc none (List.take 1 (List.drop 0 [(CV.int .u8 (IntKind.wrap .u8 (IntKind.wrap .i64 ((IntKind.wrap .i64 (u64.1 * 16)) + u67.1))))]))), (CV.slc none (List.take u64.2.1 (List.drop 0 u64.2.2))), (CV.slc none (List.take u67.2.1 (List.drop 0 u67.2.2))), (CV.slc none (CV.toL c69))])))) ((Nat.cast ((List.length (CV.toL c66))) : Int))) ((IntKind.wrap .i64 ((CV.toI c63) - v10_27.2.2.1)))
else
K (v10_27.2.1, 0, (List.take (0 + v10_27.2.1) v10_27.2.2.2.2.2)))
def f11_L3 {X : Type} (R_f17 : f17_R) (R_f28 : f28_R) (R_f29 : f29_R) (k : Nat) (K : Nat × Int × (List CV) → Option X)  (rec3 : Nat × Nat × Int × Int × (List CV) × (List CV) → Option X) (v : Nat × Nat × Int × Int × (List CV) × (List CV)) : Option X := f11_T3 R_f17 R_f28 R_f29 k K   rec3 v
set_option maxRecDepth 100000 in
theorem f11_L3_ev {X : Type} (R_f17 : f17_R) (R_f28 : f28_R) (R_f29 : f29_R) (hR_f17 : AnsOk Try.prog 17 (f17_cOf R_f17)) (hR_f28 : AnsOk Try.prog 28 (f28_cOf R_f28)) (hR_f29 : AnsOk Try.prog 29 (f29_cOf R_f29)) (k : Nat) (K : Out → Option X)  (r3 : St → Option X) (v : Nat × Nat × Int × Int × (List CV) × (List CV)) : loopB (f11_cx R_f17 R_f28 R_f29 hR_f17 hR_f28 hR_f29) k [.r, .r, .r, .r, .r, .r, .r, .l, .r, .b] (Try.f11.body.getD .skip) (retK (f11_cx R_f17 R_f28 R_f29 hR_f17 hR_f28 hR_f29) [⟨0, [0], some [0, 2000]⟩] Try.f11.results.toList K) [] r3 (f11_S3 v) = f11_T3 R_f17 R_f28 R_f29 k (fun u => K (f11_out u))   (fun v => r3 (f11_S3 v)) v := by kernel_rfl
theorem f11_L3_it {X : Type} (R_f17 : f17_R) (R_f28 : f28_R) (R_f29 : f29_R) (hR_f17 : AnsOk Try.prog 17 (f17_cOf R_f17)) (hR_f28 : AnsOk Try.prog 28 (f28_cOf R_f28)) (hR_f29 : AnsOk Try.prog 29 (f29_cOf R_f29)) (k : Nat) (K : Out → Option X)  : (fun v => iter (loopB (f11_cx R_f17 R_f28 R_f29 hR_f17 hR_f28 hR_f29) k [.r, .r, .r, .r, .r, .r, .r, .l, .r, .b] (Try.f11.body.getD .skip) (retK (f11_cx R_f17 R_f28 R_f29 hR_f17 hR_f28 hR_f29) [⟨0, [0], some [0, 2000]⟩] Try.f11.results.toList K) []) k (f11_S3 v)) = iterV (f11_L3 R_f17 R_f28 R_f29 k (fun u => K (f11_out u)) ) k :=
  iter_map (fun r3 v => (f11_L3_ev R_f17 R_f28 R_f29 hR_f17 hR_f28 hR_f29 k K  r3 v).trans rfl) k
def f11_T2 {X : Type} (R_f17 : f17_R) (R_f28 : f28_R) (R_f29 : f29_R) (k : Nat) (K : Nat × Int × (List CV) → Option X)  (loop3 : Nat × Nat × Int × Int × (List CV) × (List CV) → Option X) (rec2 : (List CV) × Int → Option X) (v6_17 : (List CV) × Int) : Option X :=
(bif (decide (v6_17.2 < (Nat.cast ((List.length v6_17.1)) : Int))) then
grd (decide (0 ≤ v6_17.2)) <|
Option.bind (v6_17.1)[(Int.toNat v6_17.2)]? fun e25 =>
Option.bind (CV.cell e25 1) fun c26 =>
grd (CV.isL none c26) <|
(bif (decide ((Nat.cast ((List.length (CV.toL c26))) : Int) > 300)) then
K (0, 2, (List.take 0 []))
else
rec2 (v6_17.1, (IntKind.wrap .i64 (v6_17.2 + 1))))
else
R_f17 _ (fun u27 =>
loop3 (u27.1, 0, 0, 0, u27.2, [])) (v6_17.1))
def f11_L2 {X : Type} (R_f17 : f17_R) (R_f28 : f28_R) (R_f29 : f29_R) (k : Nat) (K : Nat × Int × (List CV) → Option X)  (rec2 : (List CV) × Int → Option X) (v : (List CV) × Int) : Option X := f11_T2 R_f17 R_f28 R_f29 k K  (iterV (f11_L3 R_f17 R_f28 R_f29 k K ) k) rec2 v
set_option maxRecDepth 100000 in
theorem f11_L2_ev {X : Type} (R_f17 : f17_R) (R_f28 : f28_R) (R_f29 : f29_R) (hR_f17 : AnsOk Try.prog 17 (f17_cOf R_f17)) (hR_f28 : AnsOk Try.prog 28 (f28_cOf R_f28)) (hR_f29 : AnsOk Try.prog 29 (f29_cOf R_f29)) (k : Nat) (K : Out → Option X)  (r2 : St → Option X) (v : (List CV) × Int) : loopB (f11_cx R_f17 R_f28 R_f29 hR_f17 hR_f28 hR_f29) k [.r, .r, .r, .l, .r, .b] (Try.f11.body.getD .skip) (retK (f11_cx R_f17 R_f28 R_f29 hR_f17 hR_f28 hR_f29) [⟨0, [0], some [0, 2000]⟩] Try.f11.results.toList K) [] r2 (f11_S2 v) = f11_T2 R_f17 R_f28 R_f29 k (fun u => K (f11_out u))  (fun v => iter (loopB (f11_cx R_f17 R_f28 R_f29 hR_f17 hR_f28 hR_f29) k [.r, .r, .r, .r, .r, .r, .r, .l, .r, .b] (Try.f11.body.getD .skip) (retK (f11_cx R_f17 R_f28 R_f29 hR_f17 hR_f28 hR_f29) [⟨0, [0], some [0, 2000]⟩] Try.f11.results.toList K) []) k (f11_S3 v)) (fun v => r2 (f11_S2 v)) v := by kernel_rfl
theorem f11_L2_it {X : Type} (R_f17 : f17_R) (R_f28 : f28_R) (R_f29 : f29_R) (hR_f17 : AnsOk Try.prog 17 (f17_cOf R_f17)) (hR_f28 : AnsOk Try.prog 28 (f28_cOf R_f28)) (hR_f29 : AnsOk Try.prog 29 (f29_cOf R_f29)) (k : Nat) (K : Out → Option X)  : (fun v => iter (loopB (f11_cx R_f17 R_f28 R_f29 hR_f17 hR_f28 hR_f29) k [.r, .r, .r, .l, .r, .b] (Try.f11.body.getD .skip) (retK (f11_cx R_f17 R_f28 R_f29 hR_f17 hR_f28 hR_f29) [⟨0, [0], some [0, 2000]⟩] Try.f11.results.toList K) []) k (f11_S2 v)) = iterV (f11_L2 R_f17 R_f28 R_f29 k (fun u => K (f11_out u)) ) k :=
  iter_map (fun r2 v => (f11_L2_ev R_f17 R_f28 R_f29 hR_f17 hR_f28 hR_f29 k K  r2 v).trans (by rw [f11_L3_it R_f17 R_f28 R_f29 hR_f17 hR_f28 hR_f29 k K ]; rfl)) k
def f11_T1 {X : Type} (R_f17 : f17_R) (R_f28 : f28_R) (R_f29 : f29_R) (k : Nat) (K : Nat × Int × (List CV) → Option X)  (loop2 : (List CV) × Int → Option X) (rec1 : (List CV) × Int → Option X) (v5_0 : (List CV) × Int) : Option X :=
(bif (decide (v5_0.2 < (Nat.cast ((List.length v5_0.1)) : Int))) then
grd (decide (0 ≤ v5_0.2)) <|
Option.bind (v5_0.1)[(Int.toNat v5_0.2)]? fun e14 =>
Option.bind (CV.cell e14 0) fun c15 =>
grd (CV.isI .i64 c15) <|
(bif (decide ((CV.toI c15) < 0)) then
K (0, 1, (List.take 0 []))
else
grd (decide (0 ≤ v5_0.2)) <|
Option.bind (v5_0.1)[(Int.toNat v5_0.2)]? fun e16 =>
Option.bind (CV.cell e16 0) fun c17 =>
grd (CV.isI .i64 c17) <|
(bif (decide ((CV.toI c17) > 65535)) then
K (0, 1, (List.take 0 []))
else
rec1 (v5_0.1, (IntKind.wrap .i64 (v5_0.2 + 1)))))
else
loop2 (v5_0.1, 0))
def f11_L1 {X : Type} (R_f17 : f17_R) (R_f28 : f28_R) (R_f29 : f29_R) (k : Nat) (K : Nat × Int × (List CV) → Option X)  (rec1 : (List CV) × Int → Option X) (v : (List CV) × Int) : Option X := f11_T1 R_f17 R_f28 R_f29 k K  (iterV (f11_L2 R_f17 R_f28 R_f29 k K ) k) rec1 v
set_option maxRecDepth 100000 in
theorem f11_L1_ev {X : Type} (R_f17 : f17_R) (R_f28 : f28_R) (R_f29 : f29_R) (hR_f17 : AnsOk Try.prog 17 (f17_cOf R_f17)) (hR_f28 : AnsOk Try.prog 28 (f28_cOf R_f28)) (hR_f29 : AnsOk Try.prog 29 (f29_cOf R_f29)) (k : Nat) (K : Out → Option X)  (r1 : St → Option X) (v : (List CV) × Int) : loopB (f11_cx R_f17 R_f28 R_f29 hR_f17 hR_f28 hR_f29) k [.r, .r, .l, .r, .b] (Try.f11.body.getD .skip) (retK (f11_cx R_f17 R_f28 R_f29 hR_f17 hR_f28 hR_f29) [⟨0, [0], some [0, 2000]⟩] Try.f11.results.toList K) [] r1 (f11_S1 v) = f11_T1 R_f17 R_f28 R_f29 k (fun u => K (f11_out u))  (fun v => iter (loopB (f11_cx R_f17 R_f28 R_f29 hR_f17 hR_f28 hR_f29) k [.r, .r, .r, .l, .r, .b] (Try.f11.body.getD .skip) (retK (f11_cx R_f17 R_f28 R_f29 hR_f17 hR_f28 hR_f29) [⟨0, [0], some [0, 2000]⟩] Try.f11.results.toList K) []) k (f11_S2 v)) (fun v => r1 (f11_S1 v)) v := by kernel_rfl
theorem f11_L1_it {X : Type} (R_f17 : f17_R) (R_f28 : f28_R) (R_f29 : f29_R) (hR_f17 : AnsOk Try.prog 17 (f17_cOf R_f17)) (hR_f28 : AnsOk Try.prog 28 (f28_cOf R_f28)) (hR_f29 : AnsOk Try.prog 29 (f29_cOf R_f29)) (k : Nat) (K : Out → Option X)  : (fun v => iter (loopB (f11_cx R_f17 R_f28 R_f29 hR_f17 hR_f28 hR_f29) k [.r, .r, .l, .r, .b] (Try.f11.body.getD .skip) (retK (f11_cx R_f17 R_f28 R_f29 hR_f17 hR_f28 hR_f29) [⟨0, [0], some [0, 2000]⟩] Try.f11.results.toList K) []) k (f11_S1 v)) = iterV (f11_L1 R_f17 R_f28 R_f29 k (fun u => K (f11_out u)) ) k :=
  iter_map (fun r1 v => (f11_L1_ev R_f17 R_f28 R_f29 hR_f17 hR_f28 hR_f29 k K  r1 v).trans (by rw [f11_L2_it R_f17 R_f28 R_f29 hR_f17 hR_f28 hR_f29 k K ]; rfl)) k
def f11_T {X : Type} (R_f17 : f17_R) (R_f28 : f28_R) (R_f29 : f29_R) (k : Nat) (K : Nat × Int × (List CV) → Option X) (loop1 : (List CV) × Int → Option X) (x0 : List CV) : Option X :=
(bif (decide ((Nat.cast ((List.length x0)) : Int) > 24)) then
K (0, 3, (List.take 0 []))
else
loop1 (x0, 0))
/-- "outpost/outpostref08.Write" -/
def f11_A (R_f17 : f17_R) (R_f28 : f28_R) (R_f29 : f29_R) (k : Nat) : f11_R := fun X K x0 => f11_T R_f17 R_f28 R_f29 k K (iterV (f11_L1 R_f17 R_f28 R_f29 k K) k) x0
set_option maxRecDepth 100000 in
theorem f11_ev' {X : Type} (R_f17 : f17_R) (R_f28 : f28_R) (R_f29 : f29_R) (hR_f17 : AnsOk Try.prog 17 (f17_cOf R_f17)) (hR_f28 : AnsOk Try.prog 28 (f28_cOf R_f28)) (hR_f29 : AnsOk Try.prog 29 (f29_cOf R_f29)) (k : Nat) (K : Out → Option X) (x0 : List CV) : evFn (f11_cx R_f17 R_f28 R_f29 hR_f17 hR_f28 hR_f29) [⟨0, [0], some [0, 2000]⟩] k Try.f11.ntmps Try.f11.results.toList (Try.f11.body.getD .skip) [(.sl false (some 2) x0)] [] K = f11_T R_f17 R_f28 R_f29 k (fun u => K (f11_out u)) (fun v => iter (loopB (f11_cx R_f17 R_f28 R_f29 hR_f17 hR_f28 hR_f29) k [.r, .r, .l, .r, .b] (Try.f11.body.getD .skip) (retK (f11_cx R_f17 R_f28 R_f29 hR_f17 hR_f28 hR_f29) [⟨0, [0], some [0, 2000]⟩] Try.f11.results.toList K) []) k (f11_S1 v)) x0 := by kernel_rfl
theorem f11_ev {X : Type} (R_f17 : f17_R) (R_f28 : f28_R) (R_f29 : f29_R) (hR_f17 : AnsOk Try.prog 17 (f17_cOf R_f17)) (hR_f28 : AnsOk Try.prog 28 (f28_cOf R_f28)) (hR_f29 : AnsOk Try.prog 29 (f29_cOf R_f29)) (k : Nat) (K : Out → Option X) (x0 : List CV) : evFn (f11_cx R_f17 R_f28 R_f29 hR_f17 hR_f28 hR_f29) [⟨0, [0], some [0, 2000]⟩] k Try.f11.ntmps Try.f11.results.toList (Try.f11.body.getD .skip) [(.sl false (some 2) x0)] [] K = f11_A R_f17 R_f28 R_f29 k X (fun u => K (f11_out u)) x0 := (f11_ev' R_f17 R_f28 R_f29 hR_f17 hR_f28 hR_f29 k K x0).trans (by rw [f11_L1_it R_f17 R_f28 R_f29 hR_f17 hR_f28 hR_f29 k K]; rfl)
theorem f11_okA (R_f17 : f17_R) (R_f28 : f28_R) (R_f29 : f29_R) (hR_f17 : AnsOk Try.prog 17 (f17_cOf R_f17)) (hR_f28 : AnsOk Try.prog 28 (f28_cOf R_f28)) (hR_f29 : AnsOk Try.prog 29 (f29_cOf R_f29)) (k : Nat) : AnsOk Try.prog 11 (f11_cOf (f11_A R_f17 R_f28 R_f29 k)) := by
  intro X xs ns K x h
  unfold f11_cOf at h ⊢
  split at h
  · exact ans_main S (f11_Cok R_f17 R_f28 R_f29 hR_f17 hR_f28 hR_f29) Try.func11 (ent_of Try.func11 (by kernel_rfl) rfl) rfl (fun X K => f11_ev R_f17 R_f28 R_f29 hR_f17 hR_f28 hR_f29 k K _) h
  · cases h
/-- "outpost/outpostref08.Write" -/
def f11 {X : Type} (k : Nat) (K : Nat × Int × (List CV) → Option X) (x0 : List CV) : Option X := f11_A (fun X => @f17 X k) (fun X => @f28 X k) (fun X => @f29 X k) k X K x0
theorem f11_ok (k : Nat) : AnsOk Try.prog 11 (f11_cOf (fun X => @f11 X k)) := f11_okA (fun X => @f17 X k) (fun X => @f28 X k) (fun X => @f29 X k) (f17_ok k) (f28_ok k) (f29_ok k) k
abbrev f12_R : Type 1 := (X : Type) → (Bool → Option X) → (List CV) → (List CV) → Option X
def f12_out (u : Bool) : Out := ⟨(.v (CV.bool u)), []⟩
def f12_cOf (R : f12_R) : FnC := fun X xs ns K => match xs, ns with
  | [(.sl false none x0), (.sl false none x1)], [] => R X (fun u => K (f12_out u)) x0 x1
  | _, _ => none
def f12_plan : Nat → Option (List Nat × List Wk)
  | 0 => some ([0, 1], [])
  | 1 => some ([0, 1], [])
  | 2 => some ([], [])
  | 3 => some ([0, 1], [])
  | 4 => some ([0, 1, 5], [])
  | 5 => some ([0, 1, 5], [])
  | 6 => some ([0, 1, 5], [])
  | 7 => some ([], [])
  | 8 => some ([], [])
  | _ => none
def f12_C : Fns := noC
theorem f12_Cok : CsOk Try.prog (f12_C) := noC_ok
def f12_cx : Cx := mkCx (tabOf rows) (f12_C) md (cmpIn cmps) f12_plan (f12_Cok)
def f12_S1 (v : (List CV) × (List CV) × Int) : St := ⟨[(.sl false none v.1), (.sl false none v.2.1), .undef, .undef, .undef, (.v (CV.int .i64 v.2.2)), .undef, .undef, .undef, .undef, .undef, .undef, .undef, .undef, .undef, .undef, .undef, .undef, .undef, .undef, .undef, .undef, .undef, .undef, .undef, .undef], []⟩
def f12_T1 {X : Type} (k : Nat) (K : Bool → Option X)   (rec1 : (List CV) × (List CV) × Int → Option X) (v5_0 : (List CV) × (List CV) × Int) : Option X :=
(bif (decide (v5_0.2.2 < (Nat.cast ((List.length v5_0.1)) : Int))) then
grd (decide (0 ≤ v5_0.2.2)) <|
Option.bind (v5_0.1)[(Int.toNat v5_0.2.2)]? fun e8 =>
grd (CV.isI .u8 e8) <|
grd (decide (0 ≤ v5_0.2.2)) <|
Option.bind (v5_0.2.1)[(Int.toNat v5_0.2.2)]? fun e9 =>
grd (CV.isI .u8 e9) <|
(bif ((CV.toI e8) != (CV.toI e9)) then
K (false)
else
rec1 (v5_0.1, v5_0.2.1, (IntKind.wrap .i64 (v5_0.2.2 + 1))))
else
K (true))
def f12_L1 {X : Type} (k : Nat) (K : Bool → Option X)  (rec1 : (List CV) × (List CV) × Int → Option X) (v : (List CV) × (List CV) × Int) : Option X := f12_T1 k K   rec1 v
set_option maxRecDepth 100000 in
theorem f12_L1_ev {X : Type} (k : Nat) (K : Out → Option X)  (r1 : St → Option X) (v : (List CV) × (List CV) × Int) : loopB (f12_cx) k [.r, .r, .l, .r, .b] (Try.f12.body.getD .skip) (retK (f12_cx) [] Try.f12.results.toList K) [] r1 (f12_S1 v) = f12_T1 k (fun u => K (f12_out u))   (fun v => r1 (f12_S1 v)) v := by kernel_rfl
theorem f12_L1_it {X : Type} (k : Nat) (K : Out → Option X)  : (fun v => iter (loopB (f12_cx) k [.r, .r, .l, .r, .b] (Try.f12.body.getD .skip) (retK (f12_cx) [] Try.f12.results.toList K) []) k (f12_S1 v)) = iterV (f12_L1 k (fun u => K (f12_out u)) ) k :=
  iter_map (fun r1 v => (f12_L1_ev k K  r1 v).trans rfl) k
def f12_T {X : Type} (k : Nat) (K : Bool → Option X) (loop1 : (List CV) × (List CV) × Int → Option X) (x0 : List CV) (x1 : List CV) : Option X :=
(bif ((Nat.cast ((List.length x0)) : Int) != (Nat.cast ((List.length x1)) : Int)) then
K (false)
else
loop1 (x0, x1, 0))
/-- "outpost/outpostref01.Same" -/
def f12_A (k : Nat) : f12_R := fun X K x0 x1 => f12_T k K (iterV (f12_L1 k K) k) x0 x1
set_option maxRecDepth 100000 in
theorem f12_ev' {X : Type} (k : Nat) (K : Out → Option X) (x0 : List CV) (x1 : List CV) : evFn (f12_cx) [] k Try.f12.ntmps Try.f12.results.toList (Try.f12.body.getD .skip) [(.sl false none x0), (.sl false none x1)] [] K = f12_T k (fun u => K (f12_out u)) (fun v => iter (loopB (f12_cx) k [.r, .r, .l, .r, .b] (Try.f12.body.getD .skip) (retK (f12_cx) [] Try.f12.results.toList K) []) k (f12_S1 v)) x0 x1 := by kernel_rfl
theorem f12_ev {X : Type} (k : Nat) (K : Out → Option X) (x0 : List CV) (x1 : List CV) : evFn (f12_cx) [] k Try.f12.ntmps Try.f12.results.toList (Try.f12.body.getD .skip) [(.sl false none x0), (.sl false none x1)] [] K = f12_A k X (fun u => K (f12_out u)) x0 x1 := (f12_ev' k K x0 x1).trans (by rw [f12_L1_it k K]; rfl)
theorem f12_okA (k : Nat) : AnsOk Try.prog 12 (f12_cOf (f12_A k)) := by
  intro X xs ns K x h
  unfold f12_cOf at h ⊢
  split at h
  · exact ans_main S (f12_Cok) Try.func12 (ent_of Try.func12 (by kernel_rfl) rfl) rfl (fun X K => f12_ev k K _ _) h
  · cases h
/-- "outpost/outpostref01.Same" -/
def f12 {X : Type} (k : Nat) (K : Bool → Option X) (x0 : List CV) (x1 : List CV) : Option X := f12_A k X K x0 x1
theorem f12_ok (k : Nat) : AnsOk Try.prog 12 (f12_cOf (fun X => @f12 X k)) := f12_okA k
abbrev f3_R : Type 1 := (X : Type) → (Bool → Option X) → (List CV) → Option X
def f3_out (u : Bool) : Out := ⟨(.v (CV.bool u)), []⟩
def f3_cOf (R : f3_R) : FnC := fun X xs ns K => match xs, ns with
  | [(.sl true (some 2) x0)], [] => R X (fun u => K (f3_out u)) x0
  | _, _ => none
def f3_plan : Nat → Option (List Nat × List Wk)
  | 0 => some ([0], [])
  | 1 => some ([0], [])
  | 2 => some ([], [])
  | 3 => some ([0], [])
  | 4 => some ([], [])
  | 5 => some ([0], [])
  | 6 => some ([0, 3, 4], [])
  | 7 => some ([3, 4, 5, 6], [])
  | _ => none
def f3_C (R_f8 : f8_R) (R_f9 : f9_R) (R_f10 : f10_R) (R_f11 : f11_R) (R_f12 : f12_R) : Fns := (orC 8 (f8_cOf R_f8) (orC 9 (f9_cOf R_f9) (orC 10 (f10_cOf R_f10) (orC 11 (f11_cOf R_f11) (orC 12 (f12_cOf R_f12) noC)))))
theorem f3_Cok (R_f8 : f8_R) (R_f9 : f9_R) (R_f10 : f10_R) (R_f11 : f11_R) (R_f12 : f12_R) (hR_f8 : AnsOk Try.prog 8 (f8_cOf R_f8)) (hR_f9 : AnsOk Try.prog 9 (f9_cOf R_f9)) (hR_f10 : AnsOk Try.prog 10 (f10_cOf R_f10)) (hR_f11 : AnsOk Try.prog 11 (f11_cOf R_f11)) (hR_f12 : AnsOk Try.prog 12 (f12_cOf R_f12)) : CsOk Try.prog (f3_C R_f8 R_f9 R_f10 R_f11 R_f12) := (orC_ok hR_f8 (orC_ok hR_f9 (orC_ok hR_f10 (orC_ok hR_f11 (orC_ok hR_f12 noC_ok)))))
def f3_cx (R_f8 : f8_R) (R_f9 : f9_R) (R_f10 : f10_R) (R_f11 : f11_R) (R_f12 : f12_R) (hR_f8 : AnsOk Try.prog 8 (f8_cOf R_f8)) (hR_f9 : AnsOk Try.prog 9 (f9_cOf R_f9)) (hR_f10 : AnsOk Try.prog 10 (f10_cOf R_f10)) (hR_f11 : AnsOk Try.prog 11 (f11_cOf R_f11)) (hR_f12 : AnsOk Try.prog 12 (f12_cOf R_f12)) : Cx := mkCx (tabOf rows) (f3_C R_f8 R_f9 R_f10 R_f11 R_f12) md (cmpIn cmps) f3_plan (f3_Cok R_f8 R_f9 R_f10 R_f11 R_f12 hR_f8 hR_f9 hR_f10 hR_f11 hR_f12)
def f3_T {X : Type} (R_f8 : f8_R) (R_f9 : f9_R) (R_f10 : f10_R) (R_f11 : f11_R) (R_f12 : f12_R) (k : Nat) (K : Bool → Option X)  (x0 : List CV) : Option X :=
R_f8 _ (fun u2 =>
(bif (!u2) then
K (false)
else
R_f9 _ (fun u4 =>
(bif (!u4) then
K (true)
else
R_f10 _ (fun u5 =>
R_f11 _ (fun u6 =>
(bif (u5.2.1 == u6.2.1) then
R_f12 _ (fun u7 =>
K (u7)) ((List.take u5.1 (List.drop 0 u5.2.2))) ((List.take u6.1 (List.drop 0 u6.2.2)))
else
K (false))) (x0)) (x0))) (x0))) 
/-- "outpost/outpostlaw08.OptWrites" -/
def f3_A (R_f8 : f8_R) (R_f9 : f9_R) (R_f10 : f10_R) (R_f11 : f11_R) (R_f12 : f12_R) (k : Nat) : f3_R := fun X K x0 => f3_T R_f8 R_f9 R_f10 R_f11 R_f12 k K  x0
set_option maxRecDepth 100000 in
theorem f3_ev' {X : Type} (R_f8 : f8_R) (R_f9 : f9_R) (R_f10 : f10_R) (R_f11 : f11_R) (R_f12 : f12_R) (hR_f8 : AnsOk Try.prog 8 (f8_cOf R_f8)) (hR_f9 : AnsOk Try.prog 9 (f9_cOf R_f9)) (hR_f10 : AnsOk Try.prog 10 (f10_cOf R_f10)) (hR_f11 : AnsOk Try.prog 11 (f11_cOf R_f11)) (hR_f12 : AnsOk Try.prog 12 (f12_cOf R_f12)) (k : Nat) (K : Out → Option X) (x0 : List CV) : evFn (f3_cx R_f8 R_f9 R_f10 R_f11 R_f12 hR_f8 hR_f9 hR_f10 hR_f11 hR_f12) [] k Try.f3.ntmps Try.f3.results.toList (Try.f3.body.getD .skip) [(.sl true (some 2) x0)] [] K = f3_T R_f8 R_f9 R_f10 R_f11 R_f12 k (fun u => K (f3_out u)) x0 := by kernel_rfl
theorem f3_ev {X : Type} (R_f8 : f8_R) (R_f9 : f9_R) (R_f10 : f10_R) (R_f11 : f11_R) (R_f12 : f12_R) (hR_f8 : AnsOk Try.prog 8 (f8_cOf R_f8)) (hR_f9 : AnsOk Try.prog 9 (f9_cOf R_f9)) (hR_f10 : AnsOk Try.prog 10 (f10_cOf R_f10)) (hR_f11 : AnsOk Try.prog 11 (f11_cOf R_f11)) (hR_f12 : AnsOk Try.prog 12 (f12_cOf R_f12)) (k : Nat) (K : Out → Option X) (x0 : List CV) : evFn (f3_cx R_f8 R_f9 R_f10 R_f11 R_f12 hR_f8 hR_f9 hR_f10 hR_f11 hR_f12) [] k Try.f3.ntmps Try.f3.results.toList (Try.f3.body.getD .skip) [(.sl true (some 2) x0)] [] K = f3_A R_f8 R_f9 R_f10 R_f11 R_f12 k X (fun u => K (f3_out u)) x0 := (f3_ev' R_f8 R_f9 R_f10 R_f11 R_f12 hR_f8 hR_f9 hR_f10 hR_f11 hR_f12 k K x0).trans rfl
theorem f3_okA (R_f8 : f8_R) (R_f9 : f9_R) (R_f10 : f10_R) (R_f11 : f11_R) (R_f12 : f12_R) (hR_f8 : AnsOk Try.prog 8 (f8_cOf R_f8)) (hR_f9 : AnsOk Try.prog 9 (f9_cOf R_f9)) (hR_f10 : AnsOk Try.prog 10 (f10_cOf R_f10)) (hR_f11 : AnsOk Try.prog 11 (f11_cOf R_f11)) (hR_f12 : AnsOk Try.prog 12 (f12_cOf R_f12)) (k : Nat) : AnsOk Try.prog 3 (f3_cOf (f3_A R_f8 R_f9 R_f10 R_f11 R_f12 k)) := by
  intro X xs ns K x h
  unfold f3_cOf at h ⊢
  split at h
  · exact ans_main S (f3_Cok R_f8 R_f9 R_f10 R_f11 R_f12 hR_f8 hR_f9 hR_f10 hR_f11 hR_f12) Try.func3 (ent_of Try.func3 (by kernel_rfl) rfl) rfl (fun X K => f3_ev R_f8 R_f9 R_f10 R_f11 R_f12 hR_f8 hR_f9 hR_f10 hR_f11 hR_f12 k K _) h
  · cases h
/-- "outpost/outpostlaw08.OptWrites" -/
def f3 {X : Type} (k : Nat) (K : Bool → Option X) (x0 : List CV) : Option X := f3_A (fun X => @f8 X k) (fun X => @f9 X k) (fun X => @f10 X k) (fun X => @f11 X k) (fun X => @f12 X k) k X K x0
theorem f3_ok (k : Nat) : AnsOk Try.prog 3 (f3_cOf (fun X => @f3 X k)) := f3_okA (fun X => @f8 X k) (fun X => @f9 X k) (fun X => @f10 X k) (fun X => @f11 X k) (fun X => @f12 X k) (f8_ok k) (f9_ok k) (f10_ok k) (f11_ok k) (f12_ok k) k
abbrev f31_R : Type 1 := (X : Type) → (Int × Int × Bool → Option X) → (List CV) → Int → Int → Option X
def f31_out (u : Int × Int × Bool) : Out := ⟨(.tup [(.v (CV.int .i64 u.1)), (.v (CV.int .i64 u.2.1)), (.v (CV.bool u.2.2))]), []⟩
def f31_cOf (R : f31_R) : FnC := fun X xs ns K => match xs, ns with
  | [(.sl false none x0), (.v (CV.int .i64 x1)), (.v (CV.int .i64 x2))], [] => R X (fun u => K (f31_out u)) x0 x1 x2
  | _, _ => none
def f31_plan : Nat → Option (List Nat × List Wk)
  | 0 => some ([0, 1, 2], [])
  | 1 => some ([0, 1, 2], [])
  | 2 => some ([1, 2], [])
  | 3 => some ([0, 1, 2], [])
  | 4 => some ([0, 1], [])
  | 5 => some ([1], [])
  | 6 => some ([0, 1], [])
  | 7 => some ([0, 1], [])
  | 8 => some ([1], [])
  | 9 => some ([0, 1], [])
  | _ => none
def f31_C : Fns := noC
theorem f31_Cok : CsOk Try.prog (f31_C) := noC_ok
def f31_cx : Cx := mkCx (tabOf rows) (f31_C) md (cmpIn cmps) f31_plan (f31_Cok)
def f31_T {X : Type} (k : Nat) (K : Int × Int × Bool → Option X)  (x0 : List CV) (x1 : Int) (x2 : Int) : Option X :=
(bif (decide (x2 < 13)) then
K (x2, x1, true)
else
(bif (x2 == 13) then
(bif (decide (x1 ≥ (Nat.cast ((List.length x0)) : Int))) then
K (0, x1, false)
else
grd (decide (0 ≤ x1)) <|
Option.bind (x0)[(Int.toNat x1)]? fun e2 =>
grd (CV.isI .u8 e2) <|
K ((IntKind.wrap .i64 (13 + (IntKind.wrap .i64 (CV.toI e2)))), (IntKind.wrap .i64 (x1 + 1)), true))
else
(bif (decide ((IntKind.wrap .i64 ((Nat.cast ((List.length x0)) : Int) - x1)) < 2)) then
K (0, x1, false)
else
grd (decide (0 ≤ x1)) <|
Option.bind (x0)[(Int.toNat x1)]? fun e3 =>
grd (CV.isI .u8 e3) <|
grd (decide (0 ≤ (IntKind.wrap .i64 (x1 + 1)))) <|
Option.bind (x0)[(Int.toNat (IntKind.wrap .i64 (x1 + 1)))]? fun e4 =>
grd (CV.isI .u8 e4) <|
K ((IntKind.wrap .i64 ((IntKind.wrap .i64 (269 + (IntKind.wrap .i64 ((IntKind.wrap .i64 (CV.toI e3)) * 256)))) + (IntKind.wrap .i64 (CV.toI e4)))), (IntKind.wrap .i64 (x1 + 2)), true))))
/-- "outpost/outpostref08.number" -/
def f31_A (k : Nat) : f31_R := fun X K x0 x1 x2 => f31_T k K  x0 x1 x2
set_option maxRecDepth 100000 in
theorem f31_ev' {X : Type} (k : Nat) (K : Out → Option X) (x0 : List CV) (x1 : Int) (x2 : Int) : evFn (f31_cx) [] k Try.f31.ntmps Try.f31.results.toList (Try.f31.body.getD .skip) [(.sl false none x0), (.v (CV.int .i64 x1)), (.v (CV.int .i64 x2))] [] K = f31_T k (fun u => K (f31_out u)) x0 x1 x2 := by kernel_rfl
theorem f31_ev {X : Type} (k : Nat) (K : Out → Option X) (x0 : List CV) (x1 : Int) (x2 : Int) : evFn (f31_cx) [] k Try.f31.ntmps Try.f31.results.toList (Try.f31.body.getD .skip) [(.sl false none x0), (.v (CV.int .i64 x1)), (.v (CV.int .i64 x2))] [] K = f31_A k X (fun u => K (f31_out u)) x0 x1 x2 := (f31_ev' k K x0 x1 x2).trans rfl
theorem f31_okA (k : Nat) : AnsOk Try.prog 31 (f31_cOf (f31_A k)) := by
  intro X xs ns K x h
  unfold f31_cOf at h ⊢
  split at h
  · exact ans_main S (f31_Cok) Try.func31 (ent_of Try.func31 (by kernel_rfl) rfl) rfl (fun X K => f31_ev k K _ _ _) h
  · cases h
/-- "outpost/outpostref08.number" -/
def f31 {X : Type} (k : Nat) (K : Int × Int × Bool → Option X) (x0 : List CV) (x1 : Int) (x2 : Int) : Option X := f31_A k X K x0 x1 x2
theorem f31_ok (k : Nat) : AnsOk Try.prog 31 (f31_cOf (fun X => @f31 X k)) := f31_okA k
abbrev f14_R : Type 1 := (X : Type) → (Nat × Int × Int × (List CV) → Option X) → (List CV) → Option X
def f14_out (u : Nat × Int × Int × (List CV)) : Out := ⟨(.tup [(.osl [0, 2000] (some 2) 0 u.1), (.v (CV.int .i64 u.2.1)), (.v (CV.int .i64 u.2.2.1))]), [([0, 2000], (.row false (some 2) u.2.2.2))]⟩
def f14_cOf (R : f14_R) : FnC := fun X xs ns K => match xs, ns with
  | [(.sl false none x0)], [] => R X (fun u => K (f14_out u)) x0
  | _, _ => none
def f14_plan : Nat → Option (List Nat × List Wk)
  | 0 => some ([0], [])
  | 1 => some ([0], [])
  | 2 => some ([0, 5], [])
  | 3 => some ([0, 5, 6, 7], [])
  | 4 => some ([0, 5, 6, 7], [])
  | 5 => some ([0, 5, 6, 7, 8, 9], [])
  | 6 => some ([], [])
  | 7 => some ([0, 5, 6, 7, 8, 9], [])
  | 8 => some ([0, 5, 7, 9, 10, 11, 12], [])
  | 9 => some ([], [])
  | 10 => some ([0, 5, 7, 9, 10, 11], [])
  | 11 => some ([0, 5, 7, 10, 13, 14, 15], [])
  | 12 => some ([], [])
  | 13 => some ([0, 5, 7, 10, 13, 14], [])
  | 14 => some ([], [])
  | 15 => some ([0, 5, 7, 10, 13, 14], [])
  | 16 => some ([], [])
  | 17 => some ([0, 5, 7, 10, 13, 14], [])
  | 18 => some ([], [])
  | 19 => some ([0, 5, 7, 10, 13, 14], [])
  | 20 => some ([], [])
  | 21 => some ([0, 5, 7, 10, 13, 14], [])
  | 22 => some ([0, 5, 7, 13, 14], [])
  | 23 => some ([0, 5, 7, 13, 14], [])
  | 24 => some ([5, 6], [])
  | _ => none
def f14_C (R_f31 : f31_R) (R_f16 : f16_R) : Fns := (orC 16 (f16_cOf R_f16) (orC 31 (f31_cOf R_f31) noC))
theorem f14_Cok (R_f31 : f31_R) (R_f16 : f16_R) (hR_f31 : AnsOk Try.prog 31 (f31_cOf R_f31)) (hR_f16 : AnsOk Try.prog 16 (f16_cOf R_f16)) : CsOk Try.prog (f14_C R_f31 R_f16) := (orC_ok hR_f16 (orC_ok hR_f31 noC_ok))
def f14_cx (R_f31 : f31_R) (R_f16 : f16_R) (hR_f31 : AnsOk Try.prog 31 (f31_cOf R_f31)) (hR_f16 : AnsOk Try.prog 16 (f16_cOf R_f16)) : Cx := mkCx (tabOf rows) (f14_C R_f31 R_f16) md (cmpIn cmps) f14_plan (f14_Cok R_f31 R_f16 hR_f31 hR_f16)
def f14_S1 (v : (List CV) × Nat × Int × Int × (List CV)) : St := ⟨[(.sl false none v.1), .undef, .undef, .undef, .undef, (.osl [5] (some 2) 0 v.2.1), (.v (CV.int .i64 v.2.2.1)), (.v (CV.int .i64 v.2.2.2.1)), .undef, .undef, .undef, .undef, .undef, .undef, .undef, .undef, .undef, .undef, .undef, .undef, .undef, .undef, .undef, .undef, .undef, .undef, .undef, .undef, .undef, .undef, .undef, .undef, .undef, .undef, .undef, .undef, .undef, .undef, .undef, .undef, .undef, .undef, .undef, .undef, .undef, .undef, .undef, .undef, .undef, .undef, .undef, .undef, .undef, .undef, .undef, .undef, .undef, .undef, .undef, .undef, .undef, .undef, .undef, .undef, .undef, .undef, .undef, .undef, .undef, .undef, .undef, .undef, .undef, .undef, .undef, .undef, .undef, .undef, .undef, .undef, .undef, .undef, .undef, .undef, .undef, .undef, .undef, .undef, .undef, .undef, .undef, .undef, .undef, .undef, .undef, .undef, .undef, .undef, .undef, .undef, .undef, .undef], [([5], (.row false (some 2) v.2.2.2.2))]⟩
def f14_T1 {X : Type} (R_f31 : f31_R) (R_f16 : f16_R) (k : Nat) (K : Nat × Int × Int × (List CV) → Option X)   (rec1 : (List CV) × Nat × Int × Int × (List CV) → Option X) (v5_0 : (List CV) × Nat × Int × Int × (List CV)) : Option X :=
(bif (decide (v5_0.2.2.1 < (Nat.cast ((List.length v5_0.1)) : Int))) then
grd (decide (0 ≤ v5_0.2.2.1)) <|
Option.bind (v5_0.1)[(Int.toNat v5_0.2.2.1)]? fun e10 =>
grd (CV.isI .u8 e10) <|
(bif ((CV.toI e10) != 255) then
grd (decide (0 ≤ v5_0.2.2.1)) <|
Option.bind (v5_0.1)[(Int.toNat v5_0.2.2.1)]? fun e11 =>
grd (CV.isI .u8 e11) <|
grd (decide (0 ≤ v5_0.2.2.1)) <|
Option.bind (v5_0.1)[(Int.toNat v5_0.2.2.1)]? fun e12 =>
grd (CV.isI .u8 e12) <|
(bif ((IntKind.wrap .i64 (Int.tdiv (IntKind.wrap .i64 (CV.toI e11)) 16)) == 15) then
K (0, 0, 20, (List.take 0 []))
else
(bif ((Int.tmod (IntKind.wrap .i64 (CV.toI e12)) 16) == 15) then
K (0, 0, 20, (List.take 0 []))
else
R_f31 _ (fun u13 =>
(bif (!u13.2.2) then
K (0, 0, 20, (List.take 0 []))
else
R_f31 _ (fun u14 =>
(bif (!u14.2.2) then
K (0, 0, 20, (List.take 0 []))
else
(bif (decide ((Nat.cast (v5_0.2.1) : Int) ≥ 24)) then
K (0, 0, 3, (List.take 0 []))
else
(bif (decide ((IntKind.wrap .i64 (v5_0.2.2.2.1 + u13.1)) > 65535)) then
K (0, 0, 1, (List.take 0 []))
else
(bif (decide (u14.1 > 300)) then
K (0, 0, 2, (List.take 0 []))
else
(bif (decide ((IntKind.wrap .i64 ((Nat.cast ((List.length v5_0.1)) : Int) - u14.2.1)) < u14.1)) then
K (0, 0, 20, (List.take 0 []))
else
grd (decide (0 ≤ u14.2.1)) <|
grd (decide (u14.2.1 ≤ (IntKind.wrap .i64 (u14.2.1 + u14.1)))) <|
grd (decide ((IntKind.wrap .i64 (u14.2.1 + u14.1)) ≤ (Nat.cast ((List.length v5_0.1)) : Int))) <|
R_f16 _ (fun u15 =>
grd (decide ((v5_0.2.1 + (List.length (List.take 1 (List.drop 0 [(CV.agg [(CV.int .i64 (IntKind.wrap .i64 (v5_0.2.2.2.1 + u13.1))), (CV.slc none (List.take u15.1 (List.drop 0 u15.2)))])])))) * 32 ≤ 140737488355328)) <|
rec1 (v5_0.1, (v5_0.2.1 + (List.length (List.take 1 (List.drop 0 [(CV.agg [(CV.int .i64 (IntKind.wrap .i64 (v5_0.2.2.2.1 + u13.1))), (CV.slc none (List.take u15.1 (List.drop 0 u15.2)))])])))), (IntKind.wrap .i64 (u14.2.1 + u14.1)), (IntKind.wrap .i64 (v5_0.2.2.2.1 + u13.1)), ((List.take v5_0.2.1 v5_0.2.2.2.2) ++ (List.take 1 (List.drop 0 [(CV.agg [(CV.int .i64 (IntKind.wrap .i64 (v5_0.2.2.2.1 + u13.1))), (CV.slc none (List.take u15.1 (List.drop 0 u15.2)))])]))))) ((List.take ((Int.toNat (IntKind.wrap .i64 (u14.2.1 + u14.1))) - (Int.toNat u14.2.1)) (List.drop (Int.toNat u14.2.1) v5_0.1))))))))) (v5_0.1) (u13.2.1) ((Int.tmod (IntKind.wrap .i64 (CV.toI e12)) 16)))) (v5_0.1) ((IntKind.wrap .i64 (v5_0.2.2.1 + 1))) ((IntKind.wrap .i64 (Int.tdiv (IntKind.wrap .i64 (CV.toI e11)) 16)))))
else
K (v5_0.2.1, v5_0.2.2.1, 0, (List.take (0 + v5_0.2.1) v5_0.2.2.2.2)))
else
K (v5_0.2.1, v5_0.2.2.1, 0, (List.take (0 + v5_0.2.1) v5_0.2.2.2.2)))
def f14_L1 {X : Type} (R_f31 : f31_R) (R_f16 : f16_R) (k : Nat) (K : Nat × Int × Int × (List CV) → Option X)  (rec1 : (List CV) × Nat × Int × Int × (List CV) → Option X) (v : (List CV) × Nat × Int × Int × (List CV)) : Option X := f14_T1 R_f31 R_f16 k K   rec1 v
set_option maxRecDepth 100000 in
theorem f14_L1_ev {X : Type} (R_f31 : f31_R) (R_f16 : f16_R) (hR_f31 : AnsOk Try.prog 31 (f31_cOf R_f31)) (hR_f16 : AnsOk Try.prog 16 (f16_cOf R_f16)) (k : Nat) (K : Out → Option X)  (r1 : St → Option X) (v : (List CV) × Nat × Int × Int × (List CV)) : loopB (f14_cx R_f31 R_f16 hR_f31 hR_f16) k [.r, .r, .r, .l, .b] (Try.f14.body.getD .skip) (retK (f14_cx R_f31 R_f16 hR_f31 hR_f16) [⟨0, [0], some [0, 2000]⟩] Try.f14.results.toList K) [] r1 (f14_S1 v) = f14_T1 R_f31 R_f16 k (fun u => K (f14_out u))   (fun v => r1 (f14_S1 v)) v := by kernel_rfl
theorem f14_L1_it {X : Type} (R_f31 : f31_R) (R_f16 : f16_R) (hR_f31 : AnsOk Try.prog 31 (f31_cOf R_f31)) (hR_f16 : AnsOk Try.prog 16 (f16_cOf R_f16)) (k : Nat) (K : Out → Option X)  : (fun v => iter (loopB (f14_cx R_f31 R_f16 hR_f31 hR_f16) k [.r, .r, .r, .l, .b] (Try.f14.body.getD .skip) (retK (f14_cx R_f31 R_f16 hR_f31 hR_f16) [⟨0, [0], some [0, 2000]⟩] Try.f14.results.toList K) []) k (f14_S1 v)) = iterV (f14_L1 R_f31 R_f16 k (fun u => K (f14_out u)) ) k :=
  iter_map (fun r1 v => (f14_L1_ev R_f31 R_f16 hR_f31 hR_f16 k K  r1 v).trans rfl) k
def f14_T {X : Type} (R_f31 : f31_R) (R_f16 : f16_R) (k : Nat) (K : Nat × Int × Int × (List CV) → Option X) (loop1 : (List CV) × Nat × Int × Int × (List CV) → Option X) (x0 : List CV) : Option X :=
loop1 (x0, 0, 0, 0, [])
/-- "outpost/outpostref08.Read" -/
def f14_A (R_f31 : f31_R) (R_f16 : f16_R) (k : Nat) : f14_R := fun X K x0 => f14_T R_f31 R_f16 k K (iterV (f14_L1 R_f31 R_f16 k K) k) x0
set_option maxRecDepth 100000 in
theorem f14_ev' {X : Type} (R_f31 : f31_R) (R_f16 : f16_R) (hR_f31 : AnsOk Try.prog 31 (f31_cOf R_f31)) (hR_f16 : AnsOk Try.prog 16 (f16_cOf R_f16)) (k : Nat) (K : Out → Option X) (x0 : List CV) : evFn (f14_cx R_f31 R_f16 hR_f31 hR_f16) [⟨0, [0], some [0, 2000]⟩] k Try.f14.ntmps Try.f14.results.toList (Try.f14.body.getD .skip) [(.sl false none x0)] [] K = f14_T R_f31 R_f16 k (fun u => K (f14_out u)) (fun v => iter (loopB (f14_cx R_f31 R_f16 hR_f31 hR_f16) k [.r, .r, .r, .l, .b] (Try.f14.body.getD .skip) (retK (f14_cx R_f31 R_f16 hR_f31 hR_f16) [⟨0, [0], some [0, 2000]⟩] Try.f14.results.toList K) []) k (f14_S1 v)) x0 := by kernel_rfl
theorem f14_ev {X : Type} (R_f31 : f31_R) (R_f16 : f16_R) (hR_f31 : AnsOk Try.prog 31 (f31_cOf R_f31)) (hR_f16 : AnsOk Try.prog 16 (f16_cOf R_f16)) (k : Nat) (K : Out → Option X) (x0 : List CV) : evFn (f14_cx R_f31 R_f16 hR_f31 hR_f16) [⟨0, [0], some [0, 2000]⟩] k Try.f14.ntmps Try.f14.results.toList (Try.f14.body.getD .skip) [(.sl false none x0)] [] K = f14_A R_f31 R_f16 k X (fun u => K (f14_out u)) x0 := (f14_ev' R_f31 R_f16 hR_f31 hR_f16 k K x0).trans (by rw [f14_L1_it R_f31 R_f16 hR_f31 hR_f16 k K]; rfl)
theorem f14_okA (R_f31 : f31_R) (R_f16 : f16_R) (hR_f31 : AnsOk Try.prog 31 (f31_cOf R_f31)) (hR_f16 : AnsOk Try.prog 16 (f16_cOf R_f16)) (k : Nat) : AnsOk Try.prog 14 (f14_cOf (f14_A R_f31 R_f16 k)) := by
  intro X xs ns K x h
  unfold f14_cOf at h ⊢
  split at h
  · exact ans_main S (f14_Cok R_f31 R_f16 hR_f31 hR_f16) Try.func14 (ent_of Try.func14 (by kernel_rfl) rfl) rfl (fun X K => f14_ev R_f31 R_f16 hR_f31 hR_f16 k K _) h
  · cases h
/-- "outpost/outpostref08.Read" -/
def f14 {X : Type} (k : Nat) (K : Nat × Int × Int × (List CV) → Option X) (x0 : List CV) : Option X := f14_A (fun X => @f31 X k) (fun X => @f16 X k) k X K x0
theorem f14_ok (k : Nat) : AnsOk Try.prog 14 (f14_cOf (fun X => @f14 X k)) := f14_okA (fun X => @f31 X k) (fun X => @f16 X k) (f31_ok k) (f16_ok k) k
abbrev f15_R : Type 1 := (X : Type) → (Bool → Option X) → (List CV) → (List CV) → Option X
def f15_out (u : Bool) : Out := ⟨(.v (CV.bool u)), []⟩
def f15_cOf (R : f15_R) : FnC := fun X xs ns K => match xs, ns with
  | [(.sl false (some 2) x0), (.sl false (some 2) x1)], [] => R X (fun u => K (f15_out u)) x0 x1
  | _, _ => none
def f15_plan : Nat → Option (List Nat × List Wk)
  | 0 => some ([0, 1], [])
  | 1 => some ([0, 1], [])
  | 2 => some ([], [])
  | 3 => some ([0, 1], [])
  | 4 => some ([0, 1, 5], [])
  | 5 => some ([0, 1, 5], [])
  | 6 => some ([0, 1, 5], [])
  | 7 => some ([], [])
  | 8 => some ([], [])
  | _ => none
def f15_C (R_f12 : f12_R) : Fns := (orC 12 (f12_cOf R_f12) noC)
theorem f15_Cok (R_f12 : f12_R) (hR_f12 : AnsOk Try.prog 12 (f12_cOf R_f12)) : CsOk Try.prog (f15_C R_f12) := (orC_ok hR_f12 noC_ok)
def f15_cx (R_f12 : f12_R) (hR_f12 : AnsOk Try.prog 12 (f12_cOf R_f12)) : Cx := mkCx (tabOf rows) (f15_C R_f12) md (cmpIn cmps) f15_plan (f15_Cok R_f12 hR_f12)
def f15_S1 (v : (List CV) × (List CV) × Int) : St := ⟨[(.sl false (some 2) v.1), (.sl false (some 2) v.2.1), .undef, .undef, .undef, (.v (CV.int .i64 v.2.2)), .undef, .undef, .undef, .undef, .undef, .undef, .undef, .undef, .undef, .undef, .undef, .undef, .undef, .undef, .undef, .undef, .undef, .undef, .undef, .undef, .undef, .undef, .undef, .undef, .undef, .undef, .undef, .undef, .undef, .undef, .undef, .undef, .undef, .undef, .undef, .undef], []⟩
def f15_T1 {X : Type} (R_f12 : f12_R) (k : Nat) (K : Bool → Option X)   (rec1 : (List CV) × (List CV) × Int → Option X) (v5_0 : (List CV) × (List CV) × Int) : Option X :=
(bif (decide (v5_0.2.2 < (Nat.cast ((List.length v5_0.1)) : Int))) then
grd (decide (0 ≤ v5_0.2.2)) <|
Option.bind (v5_0.1)[(Int.toNat v5_0.2.2)]? fun e29 =>
Option.bind (CV.cell e29 0) fun c30 =>
grd (CV.isI .i64 c30) <|
grd (decide (0 ≤ v5_0.2.2)) <|
Option.bind (v5_0.2.1)[(Int.toNat v5_0.2.2)]? fun e31 =>
Option.bind (CV.cell e31 0) fun c32 =>
grd (CV.isI .i64 c32) <|
(bif ((CV.toI c30) != (CV.toI c32)) then
K (false)
else
grd (decide (0 ≤ v5_0.2.2)) <|
Option.bind (v5_0.1)[(Int.toNat v5_0.2.2)]? fun e33 =>
Option.bind (CV.cell e33 1) fun c34 =>
grd (CV.isL none c34) <|
grd (decide (0 ≤ v5_0.2.2)) <|
Option.bind (v5_0.2.1)[(Int.toNat v5_0.2.2)]? fun e35 =>
Option.bind (CV.cell e35 1) fun c36 =>
grd (CV.isL none c36) <|
R_f12 _ (fun u37 =>
(bif (!u37) then
K (false)
else
rec1 (v5_0.1, v5_0.2.1, (IntKind.wrap .i64 (v5_0.2.2 + 1))))) ((CV.toL c34)) ((CV.toL c36)))
else
K (true))
def f15_L1 {X : Type} (R_f12 : f12_R) (k : Nat) (K : Bool → Option X)  (rec1 : (List CV) × (List CV) × Int → Option X) (v : (List CV) × (List CV) × Int) : Option X := f15_T1 R_f12 k K   rec1 v
set_option maxRecDepth 100000 in
theorem f15_L1_ev {X : Type} (R_f12 : f12_R) (hR_f12 : AnsOk Try.prog 12 (f12_cOf R_f12)) (k : Nat) (K : Out → Option X)  (r1 : St → Option X) (v : (List CV) × (List CV) × Int) : loopB (f15_cx R_f12 hR_f12) k [.r, .r, .l, .r, .b] (Try.f15.body.getD .skip) (retK (f15_cx R_f12 hR_f12) [] Try.f15.results.toList K) [] r1 (f15_S1 v) = f15_T1 R_f12 k (fun u => K (f15_out u))   (fun v => r1 (f15_S1 v)) v := by kernel_rfl
theorem f15_L1_it {X : Type} (R_f12 : f12_R) (hR_f12 : AnsOk Try.prog 12 (f12_cOf R_f12)) (k : Nat) (K : Out → Option X)  : (fun v => iter (loopB (f15_cx R_f12 hR_f12) k [.r, .r, .l, .r, .b] (Try.f15.body.getD .skip) (retK (f15_cx R_f12 hR_f12) [] Try.f15.results.toList K) []) k (f15_S1 v)) = iterV (f15_L1 R_f12 k (fun u => K (f15_out u)) ) k :=
  iter_map (fun r1 v => (f15_L1_ev R_f12 hR_f12 k K  r1 v).trans rfl) k
def f15_T {X : Type} (R_f12 : f12_R) (k : Nat) (K : Bool → Option X) (loop1 : (List CV) × (List CV) × Int → Option X) (x0 : List CV) (x1 : List CV) : Option X :=
(bif ((Nat.cast ((List.length x0)) : Int) != (Nat.cast ((List.length x1)) : Int)) then
K (false)
else
loop1 (x0, x1, 0))
/-- "outpost/outpostref08.Same" -/
def f15_A (R_f12 : f12_R) (k : Nat) : f15_R := fun X K x0 x1 => f15_T R_f12 k K (iterV (f15_L1 R_f12 k K) k) x0 x1
set_option maxRecDepth 100000 in
theorem f15_ev' {X : Type} (R_f12 : f12_R) (hR_f12 : AnsOk Try.prog 12 (f12_cOf R_f12)) (k : Nat) (K : Out → Option X) (x0 : List CV) (x1 : List CV) : evFn (f15_cx R_f12 hR_f12) [] k Try.f15.ntmps Try.f15.results.toList (Try.f15.body.getD .skip) [(.sl false (some 2) x0), (.sl false (some 2) x1)] [] K = f15_T R_f12 k (fun u => K (f15_out u)) (fun v => iter (loopB (f15_cx R_f12 hR_f12) k [.r, .r, .l, .r, .b] (Try.f15.body.getD .skip) (retK (f15_cx R_f12 hR_f12) [] Try.f15.results.toList K) []) k (f15_S1 v)) x0 x1 := by kernel_rfl
theorem f15_ev {X : Type} (R_f12 : f12_R) (hR_f12 : AnsOk Try.prog 12 (f12_cOf R_f12)) (k : Nat) (K : Out → Option X) (x0 : List CV) (x1 : List CV) : evFn (f15_cx R_f12 hR_f12) [] k Try.f15.ntmps Try.f15.results.toList (Try.f15.body.getD .skip) [(.sl false (some 2) x0), (.sl false (some 2) x1)] [] K = f15_A R_f12 k X (fun u => K (f15_out u)) x0 x1 := (f15_ev' R_f12 hR_f12 k K x0 x1).trans (by rw [f15_L1_it R_f12 hR_f12 k K]; rfl)
theorem f15_okA (R_f12 : f12_R) (hR_f12 : AnsOk Try.prog 12 (f12_cOf R_f12)) (k : Nat) : AnsOk Try.prog 15 (f15_cOf (f15_A R_f12 k)) := by
  intro X xs ns K x h
  unfold f15_cOf at h ⊢
  split at h
  · exact ans_main S (f15_Cok R_f12 hR_f12) Try.func15 (ent_of Try.func15 (by kernel_rfl) rfl) rfl (fun X K => f15_ev R_f12 hR_f12 k K _ _) h
  · cases h
/-- "outpost/outpostref08.Same" -/
def f15 {X : Type} (k : Nat) (K : Bool → Option X) (x0 : List CV) (x1 : List CV) : Option X := f15_A (fun X => @f12 X k) k X K x0 x1
theorem f15_ok (k : Nat) : AnsOk Try.prog 15 (f15_cOf (fun X => @f15 X k)) := f15_okA (fun X => @f12 X k) (f12_ok k) k
abbrev f4_R : Type 1 := (X : Type) → (Bool → Option X) → (List CV) → Option X
def f4_out (u : Bool) : Out := ⟨(.v (CV.bool u)), []⟩
def f4_cOf (R : f4_R) : FnC := fun X xs ns K => match xs, ns with
  | [(.sl true none x0)], [] => R X (fun u => K (f4_out u)) x0
  | _, _ => none
def f4_plan : Nat → Option (List Nat × List Wk)
  | 0 => some ([0], [])
  | 1 => some ([0], [])
  | 2 => some ([], [])
  | 3 => some ([0], [])
  | 4 => some ([], [])
  | 5 => some ([0], [])
  | 6 => some ([0, 3, 4, 5], [])
  | 7 => some ([3, 4, 5, 6, 7, 8], [])
  | _ => none
def f4_C (R_f8 : f8_R) (R_f13 : f13_R) (R_f14 : f14_R) (R_f15 : f15_R) : Fns := (orC 8 (f8_cOf R_f8) (orC 13 (f13_cOf R_f13) (orC 14 (f14_cOf R_f14) (orC 15 (f15_cOf R_f15) noC))))
theorem f4_Cok (R_f8 : f8_R) (R_f13 : f13_R) (R_f14 : f14_R) (R_f15 : f15_R) (hR_f8 : AnsOk Try.prog 8 (f8_cOf R_f8)) (hR_f13 : AnsOk Try.prog 13 (f13_cOf R_f13)) (hR_f14 : AnsOk Try.prog 14 (f14_cOf R_f14)) (hR_f15 : AnsOk Try.prog 15 (f15_cOf R_f15)) : CsOk Try.prog (f4_C R_f8 R_f13 R_f14 R_f15) := (orC_ok hR_f8 (orC_ok hR_f13 (orC_ok hR_f14 (orC_ok hR_f15 noC_ok))))
def f4_cx (R_f8 : f8_R) (R_f13 : f13_R) (R_f14 : f14_R) (R_f15 : f15_R) (hR_f8 : AnsOk Try.prog 8 (f8_cOf R_f8)) (hR_f13 : AnsOk Try.prog 13 (f13_cOf R_f13)) (hR_f14 : AnsOk Try.prog 14 (f14_cOf R_f14)) (hR_f15 : AnsOk Try.prog 15 (f15_cOf R_f15)) : Cx := mkCx (tabOf rows) (f4_C R_f8 R_f13 R_f14 R_f15) md (cmpIn cmps) f4_plan (f4_Cok R_f8 R_f13 R_f14 R_f15 hR_f8 hR_f13 hR_f14 hR_f15)
def f4_T {X : Type} (R_f8 : f8_R) (R_f13 : f13_R) (R_f14 : f14_R) (R_f15 : f15_R) (k : Nat) (K : Bool → Option X)  (x0 : List CV) : Option X :=
R_f8 _ (fun u2 =>
(bif (!u2) then
K (false)
else
(bif (decide ((Nat.cast ((List.length x0)) : Int) > 4000)) then
K (true)
else
R_f13 _ (fun u3 =>
R_f14 _ (fun u4 =>
(bif (u3.2.2.1 == u4.2.2.1) then
(bif (u3.2.1 == u4.2.1) then
R_f15 _ (fun u5 =>
K (u5)) ((List.take u3.1 (List.drop 0 u3.2.2.2))) ((List.take u4.1 (List.drop 0 u4.2.2.2)))
else
K (false))
else
K (false))) (x0)) (x0)))) 
/-- "outpost/outpostlaw08.OptReads" -/
def f4_A (R_f8 : f8_R) (R_f13 : f13_R) (R_f14 : f14_R) (R_f15 : f15_R) (k : Nat) : f4_R := fun X K x0 => f4_T R_f8 R_f13 R_f14 R_f15 k K  x0
set_option maxRecDepth 100000 in
theorem f4_ev' {X : Type} (R_f8 : f8_R) (R_f13 : f13_R) (R_f14 : f14_R) (R_f15 : f15_R) (hR_f8 : AnsOk Try.prog 8 (f8_cOf R_f8)) (hR_f13 : AnsOk Try.prog 13 (f13_cOf R_f13)) (hR_f14 : AnsOk Try.prog 14 (f14_cOf R_f14)) (hR_f15 : AnsOk Try.prog 15 (f15_cOf R_f15)) (k : Nat) (K : Out → Option X) (x0 : List CV) : evFn (f4_cx R_f8 R_f13 R_f14 R_f15 hR_f8 hR_f13 hR_f14 hR_f15) [] k Try.f4.ntmps Try.f4.results.toList (Try.f4.body.getD .skip) [(.sl true none x0)] [] K = f4_T R_f8 R_f13 R_f14 R_f15 k (fun u => K (f4_out u)) x0 := by kernel_rfl
theorem f4_ev {X : Type} (R_f8 : f8_R) (R_f13 : f13_R) (R_f14 : f14_R) (R_f15 : f15_R) (hR_f8 : AnsOk Try.prog 8 (f8_cOf R_f8)) (hR_f13 : AnsOk Try.prog 13 (f13_cOf R_f13)) (hR_f14 : AnsOk Try.prog 14 (f14_cOf R_f14)) (hR_f15 : AnsOk Try.prog 15 (f15_cOf R_f15)) (k : Nat) (K : Out → Option X) (x0 : List CV) : evFn (f4_cx R_f8 R_f13 R_f14 R_f15 hR_f8 hR_f13 hR_f14 hR_f15) [] k Try.f4.ntmps Try.f4.results.toList (Try.f4.body.getD .skip) [(.sl true none x0)] [] K = f4_A R_f8 R_f13 R_f14 R_f15 k X (fun u => K (f4_out u)) x0 := (f4_ev' R_f8 R_f13 R_f14 R_f15 hR_f8 hR_f13 hR_f14 hR_f15 k K x0).trans rfl
theorem f4_okA (R_f8 : f8_R) (R_f13 : f13_R) (R_f14 : f14_R) (R_f15 : f15_R) (hR_f8 : AnsOk Try.prog 8 (f8_cOf R_f8)) (hR_f13 : AnsOk Try.prog 13 (f13_cOf R_f13)) (hR_f14 : AnsOk Try.prog 14 (f14_cOf R_f14)) (hR_f15 : AnsOk Try.prog 15 (f15_cOf R_f15)) (k : Nat) : AnsOk Try.prog 4 (f4_cOf (f4_A R_f8 R_f13 R_f14 R_f15 k)) := by
  intro X xs ns K x h
  unfold f4_cOf at h ⊢
  split at h
  · exact ans_main S (f4_Cok R_f8 R_f13 R_f14 R_f15 hR_f8 hR_f13 hR_f14 hR_f15) Try.func4 (ent_of Try.func4 (by kernel_rfl) rfl) rfl (fun X K => f4_ev R_f8 R_f13 R_f14 R_f15 hR_f8 hR_f13 hR_f14 hR_f15 k K _) h
  · cases h
/-- "outpost/outpostlaw08.OptReads" -/
def f4 {X : Type} (k : Nat) (K : Bool → Option X) (x0 : List CV) : Option X := f4_A (fun X => @f8 X k) (fun X => @f13 X k) (fun X => @f14 X k) (fun X => @f15 X k) k X K x0
theorem f4_ok (k : Nat) : AnsOk Try.prog 4 (f4_cOf (fun X => @f4 X k)) := f4_okA (fun X => @f8 X k) (fun X => @f13 X k) (fun X => @f14 X k) (fun X => @f15 X k) (f8_ok k) (f13_ok k) (f14_ok k) (f15_ok k) k
abbrev f5_R : Type 1 := (X : Type) → (Bool → Option X) → (List CV) → (List CV) → Option X
def f5_out (u : Bool) : Out := ⟨(.v (CV.bool u)), []⟩
def f5_cOf (R : f5_R) : FnC := fun X xs ns K => match xs, ns with
  | [(.sl true (some 2) x0), (.sl true none x1)], [] => R X (fun u => K (f5_out u)) x0 x1
  | _, _ => none
def f5_plan : Nat → Option (List Nat × List Wk)
  | 0 => some ([0, 1], [])
  | 1 => some ([0, 1], [])
  | 2 => some ([], [])
  | 3 => some ([0, 1], [])
  | 4 => some ([0, 1, 5, 6], [])
  | 5 => some ([5, 6], [])
  | 6 => some ([0, 1, 5], [])
  | 7 => some ([0, 1, 5, 7, 8, 9], [])
  | 8 => some ([0, 5, 7, 8, 9, 10, 11, 12], [])
  | 9 => some ([], [])
  | 10 => some ([5, 7], [])
  | 11 => some ([5, 13, 14], [])
  | _ => none
def f5_C (R_f8 : f8_R) (R_f10 : f10_R) (R_f13 : f13_R) (R_f16 : f16_R) (R_f17 : f17_R) (R_f15 : f15_R) (R_f12 : f12_R) : Fns := (orC 8 (f8_cOf R_f8) (orC 10 (f10_cOf R_f10) (orC 12 (f12_cOf R_f12) (orC 13 (f13_cOf R_f13) (orC 15 (f15_cOf R_f15) (orC 16 (f16_cOf R_f16) (orC 17 (f17_cOf R_f17) noC)))))))
theorem f5_Cok (R_f8 : f8_R) (R_f10 : f10_R) (R_f13 : f13_R) (R_f16 : f16_R) (R_f17 : f17_R) (R_f15 : f15_R) (R_f12 : f12_R) (hR_f8 : AnsOk Try.prog 8 (f8_cOf R_f8)) (hR_f10 : AnsOk Try.prog 10 (f10_cOf R_f10)) (hR_f13 : AnsOk Try.prog 13 (f13_cOf R_f13)) (hR_f16 : AnsOk Try.prog 16 (f16_cOf R_f16)) (hR_f17 : AnsOk Try.prog 17 (f17_cOf R_f17)) (hR_f15 : AnsOk Try.prog 15 (f15_cOf R_f15)) (hR_f12 : AnsOk Try.prog 12 (f12_cOf R_f12)) : CsOk Try.prog (f5_C R_f8 R_f10 R_f13 R_f16 R_f17 R_f15 R_f12) := (orC_ok hR_f8 (orC_ok hR_f10 (orC_ok hR_f12 (orC_ok hR_f13 (orC_ok hR_f15 (orC_ok hR_f16 (orC_ok hR_f17 noC_ok)))))))
def f5_cx (R_f8 : f8_R) (R_f10 : f10_R) (R_f13 : f13_R) (R_f16 : f16_R) (R_f17 : f17_R) (R_f15 : f15_R) (R_f12 : f12_R) (hR_f8 : AnsOk Try.prog 8 (f8_cOf R_f8)) (hR_f10 : AnsOk Try.prog 10 (f10_cOf R_f10)) (hR_f13 : AnsOk Try.prog 13 (f13_cOf R_f13)) (hR_f16 : AnsOk Try.prog 16 (f16_cOf R_f16)) (hR_f17 : AnsOk Try.prog 17 (f17_cOf R_f17)) (hR_f15 : AnsOk Try.prog 15 (f15_cOf R_f15)) (hR_f12 : AnsOk Try.prog 12 (f12_cOf R_f12)) : Cx := mkCx (tabOf rows) (f5_C R_f8 R_f10 R_f13 R_f16 R_f17 R_f15 R_f12) md (cmpIn cmps) f5_plan (f5_Cok R_f8 R_f10 R_f13 R_f16 R_f17 R_f15 R_f12 hR_f8 hR_f10 hR_f13 hR_f16 hR_f17 hR_f15 hR_f12)
def f5_T {X : Type} (R_f8 : f8_R) (R_f10 : f10_R) (R_f13 : f13_R) (R_f16 : f16_R) (R_f17 : f17_R) (R_f15 : f15_R) (R_f12 : f12_R) (k : Nat) (K : Bool → Option X)  (x0 : List CV) (x1 : List CV) : Option X :=
R_f8 _ (fun u2 =>
(bif (!u2) then
K (false)
else
R_f10 _ (fun u3 =>
(bif (u3.2.1 != 0) then
(bif ((Nat.cast (u3.1) : Int) == 0) then
K (true)
else
K ((u3.2.1 == 0)))
else
(bif (decide ((Nat.cast ((List.length x1)) : Int) > 1000)) then
(bif ((Nat.cast (u3.1) : Int) == 0) then
K (true)
else
K ((u3.2.1 == 0)))
else
R_f13 _ (fun u4 =>
R_f16 _ (fun u5 =>
grd (decide ((u5.1 + (List.length (List.take 1 (List.drop 0 [(CV.int .u8 255)])))) * 1 ≤ 140737488355328)) <|
grd (decide (((u5.1 + (List.length (List.take 1 (List.drop 0 [(CV.int .u8 255)])))) + (List.length x1)) * 1 ≤ 140737488355328)) <|
R_f13 _ (fun u6 =>
(bif (u4.2.2.1 != 0) then
K (false)
else
(bif (u6.2.2.1 != 0) then
K (false)
else
(bif (u4.2.1 != (Nat.cast (u3.1) : Int)) then
K (false)
else
(bif (u6.2.1 != u4.2.1) then
K (false)
else
R_f17 _ (fun u10 =>
R_f15 _ (fun u11 =>
(bif (!u11) then
K (false)
else
R_f15 _ (fun u12 =>
(bif (!u12) then
K (false)
else
R_f10 _ (fun u13 =>
(bif (u13.2.1 == 0) then
R_f12 _ (fun u14 =>
K (u14)) ((List.take u13.1 (List.drop 0 u13.2.2))) ((List.take u3.1 (List.drop 0 u3.2.2)))
else
K (false))) ((List.take u4.1 (List.drop 0 u4.2.2.2))))) ((List.take u6.1 (List.drop 0 u6.2.2.2))) ((List.take u4.1 (List.drop 0 u4.2.2.2))))) ((List.take u4.1 (List.drop 0 u4.2.2.2))) ((List.take u10.1 (List.drop 0 u10.2)))) (x0)))))) ((List.take ((u5.1 + (List.length (List.take 1 (List.drop 0 [(CV.int .u8 255)])))) + (List.length x1)) (List.drop 0 ((List.take (u5.1 + (List.length (List.take 1 (List.drop 0 [(CV.int .u8 255)])))) ((List.take u5.1 u5.2) ++ (List.take 1 (List.drop 0 [(CV.int .u8 255)])))) ++ x1))))) ((List.take u3.1 (List.drop 0 u3.2.2)))) ((List.take u3.1 (List.drop 0 u3.2.2)))))) (x0))) 
/-- "outpost/outpostlaw08.OptBack" -/
def f5_A (R_f8 : f8_R) (R_f10 : f10_R) (R_f13 : f13_R) (R_f16 : f16_R) (R_f17 : f17_R) (R_f15 : f15_R) (R_f12 : f12_R) (k : Nat) : f5_R := fun X K x0 x1 => f5_T R_f8 R_f10 R_f13 R_f16 R_f17 R_f15 R_f12 k K  x0 x1
set_option maxRecDepth 100000 in
theorem f5_ev' {X : Type} (R_f8 : f8_R) (R_f10 : f10_R) (R_f13 : f13_R) (R_f16 : f16_R) (R_f17 : f17_R) (R_f15 : f15_R) (R_f12 : f12_R) (hR_f8 : AnsOk Try.prog 8 (f8_cOf R_f8)) (hR_f10 : AnsOk Try.prog 10 (f10_cOf R_f10)) (hR_f13 : AnsOk Try.prog 13 (f13_cOf R_f13)) (hR_f16 : AnsOk Try.prog 16 (f16_cOf R_f16)) (hR_f17 : AnsOk Try.prog 17 (f17_cOf R_f17)) (hR_f15 : AnsOk Try.prog 15 (f15_cOf R_f15)) (hR_f12 : AnsOk Try.prog 12 (f12_cOf R_f12)) (k : Nat) (K : Out → Option X) (x0 : List CV) (x1 : List CV) : evFn (f5_cx R_f8 R_f10 R_f13 R_f16 R_f17 R_f15 R_f12 hR_f8 hR_f10 hR_f13 hR_f16 hR_f17 hR_f15 hR_f12) [] k Try.f5.ntmps Try.f5.results.toList (Try.f5.body.getD .skip) [(.sl true (some 2) x0), (.sl true none x1)] [] K = f5_T R_f8 R_f10 R_f13 R_f16 R_f17 R_f15 R_f12 k (fun u => K (f5_out u)) x0 x1 := by kernel_rfl
theorem f5_ev {X : Type} (R_f8 : f8_R) (R_f10 : f10_R) (R_f13 : f13_R) (R_f16 : f16_R) (R_f17 : f17_R) (R_f15 : f15_R) (R_f12 : f12_R) (hR_f8 : AnsOk Try.prog 8 (f8_cOf R_f8)) (hR_f10 : AnsOk Try.prog 10 (f10_cOf R_f10)) (hR_f13 : AnsOk Try.prog 13 (f13_cOf R_f13)) (hR_f16 : AnsOk Try.prog 16 (f16_cOf R_f16)) (hR_f17 : AnsOk Try.prog 17 (f17_cOf R_f17)) (hR_f15 : AnsOk Try.prog 15 (f15_cOf R_f15)) (hR_f12 : AnsOk Try.prog 12 (f12_cOf R_f12)) (k : Nat) (K : Out → Option X) (x0 : List CV) (x1 : List CV) : evFn (f5_cx R_f8 R_f10 R_f13 R_f16 R_f17 R_f15 R_f12 hR_f8 hR_f10 hR_f13 hR_f16 hR_f17 hR_f15 hR_f12) [] k Try.f5.ntmps Try.f5.results.toList (Try.f5.body.getD .skip) [(.sl true (some 2) x0), (.sl true none x1)] [] K = f5_A R_f8 R_f10 R_f13 R_f16 R_f17 R_f15 R_f12 k X (fun u => K (f5_out u)) x0 x1 := (f5_ev' R_f8 R_f10 R_f13 R_f16 R_f17 R_f15 R_f12 hR_f8 hR_f10 hR_f13 hR_f16 hR_f17 hR_f15 hR_f12 k K x0 x1).trans rfl
theorem f5_okA (R_f8 : f8_R) (R_f10 : f10_R) (R_f13 : f13_R) (R_f16 : f16_R) (R_f17 : f17_R) (R_f15 : f15_R) (R_f12 : f12_R) (hR_f8 : AnsOk Try.prog 8 (f8_cOf R_f8)) (hR_f10 : AnsOk Try.prog 10 (f10_cOf R_f10)) (hR_f13 : AnsOk Try.prog 13 (f13_cOf R_f13)) (hR_f16 : AnsOk Try.prog 16 (f16_cOf R_f16)) (hR_f17 : AnsOk Try.prog 17 (f17_cOf R_f17)) (hR_f15 : AnsOk Try.prog 15 (f15_cOf R_f15)) (hR_f12 : AnsOk Try.prog 12 (f12_cOf R_f12)) (k : Nat) : AnsOk Try.prog 5 (f5_cOf (f5_A R_f8 R_f10 R_f13 R_f16 R_f17 R_f15 R_f12 k)) := by
  intro X xs ns K x h
  unfold f5_cOf at h ⊢
  split at h
  · exact ans_main S (f5_Cok R_f8 R_f10 R_f13 R_f16 R_f17 R_f15 R_f12 hR_f8 hR_f10 hR_f13 hR_f16 hR_f17 hR_f15 hR_f12) Try.func5 (ent_of Try.func5 (by kernel_rfl) rfl) rfl (fun X K => f5_ev R_f8 R_f10 R_f13 R_f16 R_f17 R_f15 R_f12 hR_f8 hR_f10 hR_f13 hR_f16 hR_f17 hR_f15 hR_f12 k K _ _) h
  · cases h
/-- "outpost/outpostlaw08.OptBack" -/
def f5 {X : Type} (k : Nat) (K : Bool → Option X) (x0 : List CV) (x1 : List CV) : Option X := f5_A (fun X => @f8 X k) (fun X => @f10 X k) (fun X => @f13 X k) (fun X => @f16 X k) (fun X => @f17 X k) (fun X => @f15 X k) (fun X => @f12 X k) k X K x0 x1
theorem f5_ok (k : Nat) : AnsOk Try.prog 5 (f5_cOf (fun X => @f5 X k)) := f5_okA (fun X => @f8 X k) (fun X => @f10 X k) (fun X => @f13 X k) (fun X => @f16 X k) (fun X => @f17 X k) (fun X => @f15 X k) (fun X => @f12 X k) (f8_ok k) (f10_ok k) (f13_ok k) (f16_ok k) (f17_ok k) (f15_ok k) (f12_ok k) k
abbrev f6_R : Type 1 := (X : Type) → (Bool → Option X) → Int → Option X
def f6_out (u : Bool) : Out := ⟨(.v (CV.bool u)), []⟩
def f6_cOf (R : f6_R) : FnC := fun X xs ns K => match xs, ns with
  | [(.v (CV.int .i64 x0))], [] => R X (fun u => K (f6_out u)) x0
  | _, _ => none
def f6_plan : Nat → Option (List Nat × List Wk)
  | 0 => some ([0], [])
  | 1 => some ([0], [])
  | 2 => some ([], [])
  | 3 => some ([0], [])
  | 4 => some ([0, 3], [])
  | 5 => some ([0, 3, 4, 5], [])
  | 6 => some ([3, 4, 5], [])
  | 7 => some ([0, 3, 4, 5], [])
  | 8 => some ([3, 4, 5], [])
  | 9 => some ([0, 3, 4, 5], [])
  | _ => none
def f6_C (R_f8 : f8_R) (R_f18 : f18_R) (R_f19 : f19_R) : Fns := (orC 8 (f8_cOf R_f8) (orC 18 (f18_cOf R_f18) (orC 19 (f19_cOf R_f19) noC)))
theorem f6_Cok (R_f8 : f8_R) (R_f18 : f18_R) (R_f19 : f19_R) (hR_f8 : AnsOk Try.prog 8 (f8_cOf R_f8)) (hR_f18 : AnsOk Try.prog 18 (f18_cOf R_f18)) (hR_f19 : AnsOk Try.prog 19 (f19_cOf R_f19)) : CsOk Try.prog (f6_C R_f8 R_f18 R_f19) := (orC_ok hR_f8 (orC_ok hR_f18 (orC_ok hR_f19 noC_ok)))
def f6_cx (R_f8 : f8_R) (R_f18 : f18_R) (R_f19 : f19_R) (hR_f8 : AnsOk Try.prog 8 (f8_cOf R_f8)) (hR_f18 : AnsOk Try.prog 18 (f18_cOf R_f18)) (hR_f19 : AnsOk Try.prog 19 (f19_cOf R_f19)) : Cx := mkCx (tabOf rows) (f6_C R_f8 R_f18 R_f19) md (cmpIn cmps) f6_plan (f6_Cok R_f8 R_f18 R_f19 hR_f8 hR_f18 hR_f19)
def f6_T {X : Type} (R_f8 : f8_R) (R_f18 : f18_R) (R_f19 : f19_R) (k : Nat) (K : Bool → Option X)  (x0 : Int) : Option X :=
R_f8 _ (fun u2 =>
(bif (!u2) then
K (false)
else
R_f18 _ (fun u3 =>
R_f19 _ (fun u4 =>
(bif (decide (x0 ≤ 0)) then
(bif ((Nat.cast (u3.1) : Int) == 0) then
(bif u4.2 then
K ((u4.1 == 0))
else
K (false))
else
K (false))
else
(bif (decide (x0 ≥ 72057594037927936)) then
(bif (!u4.2) then
(bif (u4.1 == 0) then
K (((Nat.cast (u3.1) : Int) == 8))
else
K (false))
else
K (false))
else
(bif u4.2 then
(bif (u4.1 == x0) then
grd (decide (0 < (Nat.cast (u3.1) : Int))) <|
Option.bind (u3.2)[0]? fun e5 =>
grd (CV.isI .u8 e5) <|
K (((CV.toI e5) != 0))
else
K (false))
else
K (false))))) ((List.take u3.1 (List.drop 0 u3.2)))) (x0))) 
/-- "outpost/outpostlaw08.OptNumbers" -/
def f6_A (R_f8 : f8_R) (R_f18 : f18_R) (R_f19 : f19_R) (k : Nat) : f6_R := fun X K x0 => f6_T R_f8 R_f18 R_f19 k K  x0
set_option maxRecDepth 100000 in
theorem f6_ev' {X : Type} (R_f8 : f8_R) (R_f18 : f18_R) (R_f19 : f19_R) (hR_f8 : AnsOk Try.prog 8 (f8_cOf R_f8)) (hR_f18 : AnsOk Try.prog 18 (f18_cOf R_f18)) (hR_f19 : AnsOk Try.prog 19 (f19_cOf R_f19)) (k : Nat) (K : Out → Option X) (x0 : Int) : evFn (f6_cx R_f8 R_f18 R_f19 hR_f8 hR_f18 hR_f19) [] k Try.f6.ntmps Try.f6.results.toList (Try.f6.body.getD .skip) [(.v (CV.int .i64 x0))] [] K = f6_T R_f8 R_f18 R_f19 k (fun u => K (f6_out u)) x0 := by kernel_rfl
theorem f6_ev {X : Type} (R_f8 : f8_R) (R_f18 : f18_R) (R_f19 : f19_R) (hR_f8 : AnsOk Try.prog 8 (f8_cOf R_f8)) (hR_f18 : AnsOk Try.prog 18 (f18_cOf R_f18)) (hR_f19 : AnsOk Try.prog 19 (f19_cOf R_f19)) (k : Nat) (K : Out → Option X) (x0 : Int) : evFn (f6_cx R_f8 R_f18 R_f19 hR_f8 hR_f18 hR_f19) [] k Try.f6.ntmps Try.f6.results.toList (Try.f6.body.getD .skip) [(.v (CV.int .i64 x0))] [] K = f6_A R_f8 R_f18 R_f19 k X (fun u => K (f6_out u)) x0 := (f6_ev' R_f8 R_f18 R_f19 hR_f8 hR_f18 hR_f19 k K x0).trans rfl
theorem f6_okA (R_f8 : f8_R) (R_f18 : f18_R) (R_f19 : f19_R) (hR_f8 : AnsOk Try.prog 8 (f8_cOf R_f8)) (hR_f18 : AnsOk Try.prog 18 (f18_cOf R_f18)) (hR_f19 : AnsOk Try.prog 19 (f19_cOf R_f19)) (k : Nat) : AnsOk Try.prog 6 (f6_cOf (f6_A R_f8 R_f18 R_f19 k)) := by
  intro X xs ns K x h
  unfold f6_cOf at h ⊢
  split at h
  · exact ans_main S (f6_Cok R_f8 R_f18 R_f19 hR_f8 hR_f18 hR_f19) Try.func6 (ent_of Try.func6 (by kernel_rfl) rfl) rfl (fun X K => f6_ev R_f8 R_f18 R_f19 hR_f8 hR_f18 hR_f19 k K _) h
  · cases h
/-- "outpost/outpostlaw08.OptNumbers" -/
def f6 {X : Type} (k : Nat) (K : Bool → Option X) (x0 : Int) : Option X := f6_A (fun X => @f8 X k) (fun X => @f18 X k) (fun X => @f19 X k) k X K x0
theorem f6_ok (k : Nat) : AnsOk Try.prog 6 (f6_cOf (fun X => @f6 X k)) := f6_okA (fun X => @f8 X k) (fun X => @f18 X k) (fun X => @f19 X k) (f8_ok k) (f18_ok k) (f19_ok k) k
abbrev f7_R : Type 1 := (X : Type) → (Bool → Option X) → (List CV) → Int → (List CV) → Option X
def f7_out (u : Bool) : Out := ⟨(.v (CV.bool u)), []⟩
def f7_cOf (R : f7_R) : FnC := fun X xs ns K => match xs, ns with
  | [(.sl true (some 2) x0), (.v (CV.int .i64 x1)), (.sl true none x2)], [] => R X (fun u => K (f7_out u)) x0 x1 x2
  | _, _ => none
def f7_plan : Nat → Option (List Nat × List Wk)
  | 0 => some ([0, 1, 2], [])
  | 1 => some ([0, 1, 2], [])
  | 2 => some ([], [])
  | 3 => some ([0, 1, 2], [])
  | 4 => some ([], [])
  | 5 => some ([0, 1, 2], [])
  | 6 => some ([0, 1, 2, 7], [])
  | 7 => some ([0, 1, 2, 7, 8], [])
  | 8 => some ([0, 1, 2, 7, 8, 9, 10], [])
  | 9 => some ([], [])
  | 10 => some ([1, 7, 8, 9, 10], [])
  | 11 => some ([1, 7, 8, 9, 10, 59, 60], [])
  | 12 => some ([1, 7, 8, 9, 10, 59, 60], [])
  | 13 => some ([1, 7, 8, 9, 10, 11, 59, 60], [])
  | 14 => some ([], [])
  | 15 => some ([1, 7, 8, 9, 10, 59, 60], [])
  | 16 => some ([1, 7, 8], [])
  | _ => none
def f7_C (R_f8 : f8_R) (R_f9 : f9_R) (R_f17 : f17_R) (R_f20 : f20_R) (R_f21 : f21_R) (R_f12 : f12_R) (R_f15 : f15_R) (R_f22 : f22_R) : Fns := (orC 8 (f8_cOf R_f8) (orC 9 (f9_cOf R_f9) (orC 12 (f12_cOf R_f12) (orC 15 (f15_cOf R_f15) (orC 17 (f17_cOf R_f17) (orC 20 (f20_cOf R_f20) (orC 21 (f21_cOf R_f21) (orC 22 (f22_cOf R_f22) noC))))))))
theorem f7_Cok (R_f8 : f8_R) (R_f9 : f9_R) (R_f17 : f17_R) (R_f20 : f20_R) (R_f21 : f21_R) (R_f12 : f12_R) (R_f15 : f15_R) (R_f22 : f22_R) (hR_f8 : AnsOk Try.prog 8 (f8_cOf R_f8)) (hR_f9 : AnsOk Try.prog 9 (f9_cOf R_f9)) (hR_f17 : AnsOk Try.prog 17 (f17_cOf R_f17)) (hR_f20 : AnsOk Try.prog 20 (f20_cOf R_f20)) (hR_f21 : AnsOk Try.prog 21 (f21_cOf R_f21)) (hR_f12 : AnsOk Try.prog 12 (f12_cOf R_f12)) (hR_f15 : AnsOk Try.prog 15 (f15_cOf R_f15)) (hR_f22 : AnsOk Try.prog 22 (f22_cOf R_f22)) : CsOk Try.prog (f7_C R_f8 R_f9 R_f17 R_f20 R_f21 R_f12 R_f15 R_f22) := (orC_ok hR_f8 (orC_ok hR_f9 (orC_ok hR_f12 (orC_ok hR_f15 (orC_ok hR_f17 (orC_ok hR_f20 (orC_ok hR_f21 (orC_ok hR_f22 noC_ok))))))))
def f7_cx (R_f8 : f8_R) (R_f9 : f9_R) (R_f17 : f17_R) (R_f20 : f20_R) (R_f21 : f21_R) (R_f12 : f12_R) (R_f15 : f15_R) (R_f22 : f22_R) (hR_f8 : AnsOk Try.prog 8 (f8_cOf R_f8)) (hR_f9 : AnsOk Try.prog 9 (f9_cOf R_f9)) (hR_f17 : AnsOk Try.prog 17 (f17_cOf R_f17)) (hR_f20 : AnsOk Try.prog 20 (f20_cOf R_f20)) (hR_f21 : AnsOk Try.prog 21 (f21_cOf R_f21)) (hR_f12 : AnsOk Try.prog 12 (f12_cOf R_f12)) (hR_f15 : AnsOk Try.prog 15 (f15_cOf R_f15)) (hR_f22 : AnsOk Try.prog 22 (f22_cOf R_f22)) : Cx := mkCx (tabOf rows) (f7_C R_f8 R_f9 R_f17 R_f20 R_f21 R_f12 R_f15 R_f22) md (cmpIn cmps) f7_plan (f7_Cok R_f8 R_f9 R_f17 R_f20 R_f21 R_f12 R_f15 R_f22 hR_f8 hR_f9 hR_f17 hR_f20 hR_f21 hR_f12 hR_f15 hR_f22)
def f7_S1 (v : Int × Nat × Nat × Nat × Nat × Int × Int × (List CV) × (List CV) × (List CV) × (List CV)) : St := ⟨[.undef, (.v (CV.int .i64 v.1)), .undef, .undef, .undef, .undef, .undef, (.osl [7] (some 2) 0 v.2.1), (.osl [8] (some 2) 0 v.2.2.1), (.osl [9] none 0 v.2.2.2.1), (.osl [10] none 0 v.2.2.2.2.1), .undef, .undef, .undef, .undef, .undef, .undef, .undef, .undef, .undef, .undef, .undef, .undef, .undef, .undef, .undef, .undef, .undef, .undef, .undef, .undef, .undef, .undef, .undef, .undef, .undef, .undef, .undef, .undef, .undef, .undef, .undef, .undef, .undef, .undef, .undef, .undef, .undef, .undef, .undef, .undef, .undef, .undef, .undef, .undef, .undef, .undef, .undef, .undef, (.v (CV.int .i64 v.2.2.2.2.2.1)), (.v (CV.int .i64 v.2.2.2.2.2.2.1)), .undef, .undef, .undef, .undef, .undef, .undef, .undef, .undef, .undef, .undef, .undef, .undef, .undef, .undef, .undef, .undef, .undef, .undef, .undef, .undef, .undef, .undef, .undef, .undef, .undef, .undef], [([7], (.row false (some 2) v.2.2.2.2.2.2.2.1)), ([8], (.row false (some 2) v.2.2.2.2.2.2.2.2.1)), ([9], (.row false none v.2.2.2.2.2.2.2.2.2.1)), ([10], (.row false none v.2.2.2.2.2.2.2.2.2.2))]⟩
def f7_T1 {X : Type} (R_f8 : f8_R) (R_f9 : f9_R) (R_f17 : f17_R) (R_f20 : f20_R) (R_f21 : f21_R) (R_f12 : f12_R) (R_f15 : f15_R) (R_f22 : f22_R) (k : Nat) (K : Bool → Option X)   (rec1 : Int × Nat × Nat × Nat × Nat × Int × Int × (List CV) × (List CV) × (List CV) × (List CV) → Option X) (v10_12 : Int × Nat × Nat × Nat × Nat × Int × Int × (List CV) × (List CV) × (List CV) × (List CV)) : Option X :=
(bif (decide (v10_12.2.2.2.2.2.2.1 < v10_12.2.2.2.2.2.1)) then
grd (decide (0 ≤ v10_12.2.2.2.2.2.2.1)) <|
grd (decide (v10_12.2.2.2.2.2.2.1 < (Nat.cast (v10_12.2.2.2.1) : Int))) <|
Option.bind (v10_12.2.2.2.2.2.2.2.2.2.1)[(0 + (Int.toNat v10_12.2.2.2.2.2.2.1))]? fun e23 =>
grd (CV.isL none e23) <|
grd (decide (0 ≤ v10_12.2.2.2.2.2.2.1)) <|
grd (decide (v10_12.2.2.2.2.2.2.1 < (Nat.cast (v10_12.2.2.2.2.1) : Int))) <|
Option.bind (v10_12.2.2.2.2.2.2.2.2.2.2)[(0 + (Int.toNat v10_12.2.2.2.2.2.2.1))]? fun e24 =>
grd (CV.isL none e24) <|
R_f12 _ (fun u25 =>
(bif (!u25) then
K (false)
else
rec1 (v10_12.1, v10_12.2.1, v10_12.2.2.1, v10_12.2.2.2.1, v10_12.2.2.2.2.1, v10_12.2.2.2.2.2.1, (IntKind.wrap .i64 (v10_12.2.2.2.2.2.2.1 + 1)), v10_12.2.2.2.2.2.2.2.1, v10_12.2.2.2.2.2.2.2.2.1, v10_12.2.2.2.2.2.2.2.2.2.1, v10_12.2.2.2.2.2.2.2.2.2.2))) ((CV.toL e23)) ((CV.toL e24))
else
R_f17 _ (fun u26 =>
R_f15 _ (fun u27 =>
(bif u27 then
R_f22 _ (fun u28 =>
R_f22 _ (fun u29 =>
R_f15 _ (fun u30 =>
K (u30)) ((List.take u28.1 (List.drop 0 u28.2))) ((List.take u29.1 (List.drop 0 u29.2)))) ((List.take v10_12.2.1 (List.drop 0 v10_12.2.2.2.2.2.2.2.1))) (v10_12.1)) ((List.take v10_12.2.2.1 (List.drop 0 v10_12.2.2.2.2.2.2.2.2.1))) (v10_12.1)
else
K (false))) ((List.take v10_12.2.2.1 (List.drop 0 v10_12.2.2.2.2.2.2.2.2.1))) ((List.take u26.1 (List.drop 0 u26.2)))) ((List.take v10_12.2.2.1 (List.drop 0 v10_12.2.2.2.2.2.2.2.2.1))))
def f7_L1 {X : Type} (R_f8 : f8_R) (R_f9 : f9_R) (R_f17 : f17_R) (R_f20 : f20_R) (R_f21 : f21_R) (R_f12 : f12_R) (R_f15 : f15_R) (R_f22 : f22_R) (k : Nat) (K : Bool → Option X)  (rec1 : Int × Nat × Nat × Nat × Nat × Int × Int × (List CV) × (List CV) × (List CV) × (List CV) → Option X) (v : Int × Nat × Nat × Nat × Nat × Int × Int × (List CV) × (List CV) × (List CV) × (List CV)) : Option X := f7_T1 R_f8 R_f9 R_f17 R_f20 R_f21 R_f12 R_f15 R_f22 k K   rec1 v
set_option maxRecDepth 100000 in
theorem f7_L1_ev {X : Type} (R_f8 : f8_R) (R_f9 : f9_R) (R_f17 : f17_R) (R_f20 : f20_R) (R_f21 : f21_R) (R_f12 : f12_R) (R_f15 : f15_R) (R_f22 : f22_R) (hR_f8 : AnsOk Try.prog 8 (f8_cOf R_f8)) (hR_f9 : AnsOk Try.prog 9 (f9_cOf R_f9)) (hR_f17 : AnsOk Try.prog 17 (f17_cOf R_f17)) (hR_f20 : AnsOk Try.prog 20 (f20_cOf R_f20)) (hR_f21 : AnsOk Try.prog 21 (f21_cOf R_f21)) (hR_f12 : AnsOk Try.prog 12 (f12_cOf R_f12)) (hR_f15 : AnsOk Try.prog 15 (f15_cOf R_f15)) (hR_f22 : AnsOk Try.prog 22 (f22_cOf R_f22)) (k : Nat) (K : Out → Option X)  (r1 : St → Option X) (v : Int × Nat × Nat × Nat × Nat × Int × Int × (List CV) × (List CV) × (List CV) × (List CV)) : loopB (f7_cx R_f8 R_f9 R_f17 R_f20 R_f21 R_f12 R_f15 R_f22 hR_f8 hR_f9 hR_f17 hR_f20 hR_f21 hR_f12 hR_f15 hR_f22) k [.r, .r, .r, .r, .r, .r, .r, .l, .r, .b] (Try.f7.body.getD .skip) (retK (f7_cx R_f8 R_f9 R_f17 R_f20 R_f21 R_f12 R_f15 R_f22 hR_f8 hR_f9 hR_f17 hR_f20 hR_f21 hR_f12 hR_f15 hR_f22) [] Try.f7.results.toList K) [] r1 (f7_S1 v) = f7_T1 R_f8 R_f9 R_f17 R_f20 R_f21 R_f12 R_f15 R_f22 k (fun u => K (f7_out u))   (fun v => r1 (f7_S1 v)) v := by kernel_rfl
theorem f7_L1_it {X : Type} (R_f8 : f8_R) (R_f9 : f9_R) (R_f17 : f17_R) (R_f20 : f20_R) (R_f21 : f21_R) (R_f12 : f12_R) (R_f15 : f15_R) (R_f22 : f22_R) (hR_f8 : AnsOk Try.prog 8 (f8_cOf R_f8)) (hR_f9 : AnsOk Try.prog 9 (f9_cOf R_f9)) (hR_f17 : AnsOk Try.prog 17 (f17_cOf R_f17)) (hR_f20 : AnsOk Try.prog 20 (f20_cOf R_f20)) (hR_f21 : AnsOk Try.prog 21 (f21_cOf R_f21)) (hR_f12 : AnsOk Try.prog 12 (f12_cOf R_f12)) (hR_f15 : AnsOk Try.prog 15 (f15_cOf R_f15)) (hR_f22 : AnsOk Try.prog 22 (f22_cOf R_f22)) (k : Nat) (K : Out → Option X)  : (fun v => iter (loopB (f7_cx R_f8 R_f9 R_f17 R_f20 R_f21 R_f12 R_f15 R_f22 hR_f8 hR_f9 hR_f17 hR_f20 hR_f21 hR_f12 hR_f15 hR_f22) k [.r, .r, .r, .r, .r, .r, .r, .l, .r, .b] (Try.f7.body.getD .skip) (retK (f7_cx R_f8 R_f9 R_f17 R_f20 R_f21 R_f12 R_f15 R_f22 hR_f8 hR_f9 hR_f17 hR_f20 hR_f21 hR_f12 hR_f15 hR_f22) [] Try.f7.results.toList K) []) k (f7_S1 v)) = iterV (f7_L1 R_f8 R_f9 R_f17 R_f20 R_f21 R_f12 R_f15 R_f22 k (fun u => K (f7_out u)) ) k :=
  iter_map (fun r1 v => (f7_L1_ev R_f8 R_f9 R_f17 R_f20 R_f21 R_f12 R_f15 R_f22 hR_f8 hR_f9 hR_f17 hR_f20 hR_f21 hR_f12 hR_f15 hR_f22 k K  r1 v).trans rfl) k
def f7_T {X : Type} (R_f8 : f8_R) (R_f9 : f9_R) (R_f17 : f17_R) (R_f20 : f20_R) (R_f21 : f21_R) (R_f12 : f12_R) (R_f15 : f15_R) (R_f22 : f22_R) (k : Nat) (K : Bool → Option X) (loop1 : Int × Nat × Nat × Nat × Nat × Int × Int × (List CV) × (List CV) × (List CV) × (List CV) → Option X) (x0 : List CV) (x1 : Int) (x2 : List CV) : Option X :=
R_f8 _ (fun u2 =>
(bif (!u2) then
K (false)
else
R_f9 _ (fun u4 =>
(bif (!u4) then
K (true)
else
(bif (decide ((Nat.cast ((List.length x2)) : Int) > 400)) then
K (true)
else
R_f17 _ (fun u5 =>
R_f20 _ (fun u6 =>
R_f21 _ (fun u7 =>
R_f21 _ (fun u8 =>
(bif ((Nat.cast (u6.1) : Int) != (IntKind.wrap .i64 ((Nat.cast ((List.length x0)) : Int) + 1))) then
K (false)
else
(bif ((Nat.cast (u7.1) : Int) != (IntKind.wrap .i64 ((Nat.cast (u8.1) : Int) + 1))) then
K (false)
else
grd (decide ((Nat.cast (u8.1) : Int) < (Nat.cast (u7.1) : Int))) <|
Option.bind (u7.2)[(0 + u8.1)]? fun e11 =>
grd (CV.isL none e11) <|
R_f12 _ (fun u12 =>
(bif (!u12) then
K (false)
else
loop1 (x1, u5.1, u6.1, u7.1, u8.1, (Nat.cast (u8.1) : Int), 0, u5.2, u6.2, u7.2, u8.2))) ((CV.toL e11)) (x2)))) ((List.take u5.1 (List.drop 0 u5.2))) (x1)) ((List.take u6.1 (List.drop 0 u6.2))) (x1)) ((List.take u5.1 (List.drop 0 u5.2))) (x1) (x2)) (x0)))) (x0))) 
/-- "outpost/outpostlaw08.OptAdds" -/
def f7_A (R_f8 : f8_R) (R_f9 : f9_R) (R_f17 : f17_R) (R_f20 : f20_R) (R_f21 : f21_R) (R_f12 : f12_R) (R_f15 : f15_R) (R_f22 : f22_R) (k : Nat) : f7_R := fun X K x0 x1 x2 => f7_T R_f8 R_f9 R_f17 R_f20 R_f21 R_f12 R_f15 R_f22 k K (iterV (f7_L1 R_f8 R_f9 R_f17 R_f20 R_f21 R_f12 R_f15 R_f22 k K) k) x0 x1 x2
set_option maxRecDepth 100000 in
theorem f7_ev' {X : Type} (R_f8 : f8_R) (R_f9 : f9_R) (R_f17 : f17_R) (R_f20 : f20_R) (R_f21 : f21_R) (R_f12 : f12_R) (R_f15 : f15_R) (R_f22 : f22_R) (hR_f8 : AnsOk Try.prog 8 (f8_cOf R_f8)) (hR_f9 : AnsOk Try.prog 9 (f9_cOf R_f9)) (hR_f17 : AnsOk Try.prog 17 (f17_cOf R_f17)) (hR_f20 : AnsOk Try.prog 20 (f20_cOf R_f20)) (hR_f21 : AnsOk Try.prog 21 (f21_cOf R_f21)) (hR_f12 : AnsOk Try.prog 12 (f12_cOf R_f12)) (hR_f15 : AnsOk Try.prog 15 (f15_cOf R_f15)) (hR_f22 : AnsOk Try.prog 22 (f22_cOf R_f22)) (k : Nat) (K : Out → Option X) (x0 : List CV) (x1 : Int) (x2 : List CV) : evFn (f7_cx R_f8 R_f9 R_f17 R_f20 R_f21 R_f12 R_f15 R_f22 hR_f8 hR_f9 hR_f17 hR_f20 hR_f21 hR_f12 hR_f15 hR_f22) [] k Try.f7.ntmps Try.f7.results.toList (Try.f7.body.getD .skip) [(.sl true (some 2) x0), (.v (CV.int .i64 x1)), (.sl true none x2)] [] K = f7_T R_f8 R_f9 R_f17 R_f20 R_f21 R_f12 R_f15 R_f22 k (fun u => K (f7_out u)) (fun v => iter (loopB (f7_cx R_f8 R_f9 R_f17 R_f20 R_f21 R_f12 R_f15 R_f22 hR_f8 hR_f9 hR_f17 hR_f20 hR_f21 hR_f12 hR_f15 hR_f22) k [.r, .r, .r, .r, .r, .r, .r, .l, .r, .b] (Try.f7.body.getD .skip) (retK (f7_cx R_f8 R_f9 R_f17 R_f20 R_f21 R_f12 R_f15 R_f22 hR_f8 hR_f9 hR_f17 hR_f20 hR_f21 hR_f12 hR_f15 hR_f22) [] Try.f7.results.toList K) []) k (f7_S1 v)) x0 x1 x2 := by kernel_rfl
theorem f7_ev {X : Type} (R_f8 : f8_R) (R_f9 : f9_R) (R_f17 : f17_R) (R_f20 : f20_R) (R_f21 : f21_R) (R_f12 : f12_R) (R_f15 : f15_R) (R_f22 : f22_R) (hR_f8 : AnsOk Try.prog 8 (f8_cOf R_f8)) (hR_f9 : AnsOk Try.prog 9 (f9_cOf R_f9)) (hR_f17 : AnsOk Try.prog 17 (f17_cOf R_f17)) (hR_f20 : AnsOk Try.prog 20 (f20_cOf R_f20)) (hR_f21 : AnsOk Try.prog 21 (f21_cOf R_f21)) (hR_f12 : AnsOk Try.prog 12 (f12_cOf R_f12)) (hR_f15 : AnsOk Try.prog 15 (f15_cOf R_f15)) (hR_f22 : AnsOk Try.prog 22 (f22_cOf R_f22)) (k : Nat) (K : Out → Option X) (x0 : List CV) (x1 : Int) (x2 : List CV) : evFn (f7_cx R_f8 R_f9 R_f17 R_f20 R_f21 R_f12 R_f15 R_f22 hR_f8 hR_f9 hR_f17 hR_f20 hR_f21 hR_f12 hR_f15 hR_f22) [] k Try.f7.ntmps Try.f7.results.toList (Try.f7.body.getD .skip) [(.sl true (some 2) x0), (.v (CV.int .i64 x1)), (.sl true none x2)] [] K = f7_A R_f8 R_f9 R_f17 R_f20 R_f21 R_f12 R_f15 R_f22 k X (fun u => K (f7_out u)) x0 x1 x2 := (f7_ev' R_f8 R_f9 R_f17 R_f20 R_f21 R_f12 R_f15 R_f22 hR_f8 hR_f9 hR_f17 hR_f20 hR_f21 hR_f12 hR_f15 hR_f22 k K x0 x1 x2).trans (by rw [f7_L1_it R_f8 R_f9 R_f17 R_f20 R_f21 R_f12 R_f15 R_f22 hR_f8 hR_f9 hR_f17 hR_f20 hR_f21 hR_f12 hR_f15 hR_f22 k K]; rfl)
theorem f7_okA (R_f8 : f8_R) (R_f9 : f9_R) (R_f17 : f17_R) (R_f20 : f20_R) (R_f21 : f21_R) (R_f12 : f12_R) (R_f15 : f15_R) (R_f22 : f22_R) (hR_f8 : AnsOk Try.prog 8 (f8_cOf R_f8)) (hR_f9 : AnsOk Try.prog 9 (f9_cOf R_f9)) (hR_f17 : AnsOk Try.prog 17 (f17_cOf R_f17)) (hR_f20 : AnsOk Try.prog 20 (f20_cOf R_f20)) (hR_f21 : AnsOk Try.prog 21 (f21_cOf R_f21)) (hR_f12 : AnsOk Try.prog 12 (f12_cOf R_f12)) (hR_f15 : AnsOk Try.prog 15 (f15_cOf R_f15)) (hR_f22 : AnsOk Try.prog 22 (f22_cOf R_f22)) (k : Nat) : AnsOk Try.prog 7 (f7_cOf (f7_A R_f8 R_f9 R_f17 R_f20 R_f21 R_f12 R_f15 R_f22 k)) := by
  intro X xs ns K x h
  unfold f7_cOf at h ⊢
  split at h
  · exact ans_main S (f7_Cok R_f8 R_f9 R_f17 R_f20 R_f21 R_f12 R_f15 R_f22 hR_f8 hR_f9 hR_f17 hR_f20 hR_f21 hR_f12 hR_f15 hR_f22) Try.func7 (ent_of Try.func7 (by kernel_rfl) rfl) rfl (fun X K => f7_ev R_f8 R_f9 R_f17 R_f20 R_f21 R_f12 R_f15 R_f22 hR_f8 hR_f9 hR_f17 hR_f20 hR_f21 hR_f12 hR_f15 hR_f22 k K _ _ _) h
  · cases h
/-- "outpost/outpostlaw08.OptAdds" -/
def f7 {X : Type} (k : Nat) (K : Bool → Option X) (x0 : List CV) (x1 : Int) (x2 : List CV) : Option X := f7_A (fun X => @f8 X k) (fun X => @f9 X k) (fun X => @f17 X k) (fun X => @f20 X k) (fun X => @f21 X k) (fun X => @f12 X k) (fun X => @f15 X k) (fun X => @f22 X k) k X K x0 x1 x2
theorem f7_ok (k : Nat) : AnsOk Try.prog 7 (f7_cOf (fun X => @f7 X k)) := f7_okA (fun X => @f8 X k) (fun X => @f9 X k) (fun X => @f17 X k) (fun X => @f20 X k) (fun X => @f21 X k) (fun X => @f12 X k) (fun X => @f15 X k) (fun X => @f22 X k) (f8_ok k) (f9_ok k) (f17_ok k) (f20_ok k) (f21_ok k) (f12_ok k) (f15_ok k) (f22_ok k) k
end Go.Proofs.YtbinkbfjedoolaaD
