/- Functions of the program, as plain Lean functions: each with the proof that the evaluator computes it. (Printed by wip/dec/dec.py.) -/
import Derived.Test.YtfllanhepeginaaTN
import Derived.Test.YtfllanhepeginaaTO
import Derived.Test.YtfllanhepeginaaTR
import Derived.Test.YtfllanhepeginaaProg
import Derived.Test.YtfllanhepeginaaChecked
import Derived.Test.YtfllanhepeginaaDA
namespace Go.Proofs.YtfllanhepeginaaD
open Go Go.Proofs.YtfllanhepeginaaS Go.Proofs
set_option linter.unusedVariables false
abbrev f4_R : Type 1 := (X : Type) → (Bool → Option X) → Option X
def f4_out (u : Bool) : Out := ⟨(.v (CV.bool u)), []⟩
def f4_cOf (R : f4_R) : FnC := fun X xs ns K => match xs, ns with
  | [], [] => R X (fun u => K (f4_out u)) 
  | _, _ => none
def f4_plan : Nat → Option (List Nat × List Wk)
  | 0 => some ([], [])
  | 1 => some ([], [])
  | 2 => some ([1, 2], [])
  | 3 => some ([2, 3, 4], [])
  | _ => none
def f4_C (R_f8 : f8_R) (R_f14 : f14_R) (R_f6 : f6_R) (R_f19 : f19_R) (R_f5 : f5_R) (R_f20 : f20_R) : Fns := (orC 5 (f5_cOf R_f5) (orC 6 (f6_cOf R_f6) (orC 8 (f8_cOf R_f8) (orC 14 (f14_cOf R_f14) (orC 19 (f19_cOf R_f19) (orC 20 (f20_cOf R_f20) noC))))))
theorem f4_Cok (R_f8 : f8_R) (R_f14 : f14_R) (R_f6 : f6_R) (R_f19 : f19_R) (R_f5 : f5_R) (R_f20 : f20_R) (hR_f8 : AnsOk Try.prog 8 (f8_cOf R_f8)) (hR_f14 : AnsOk Try.prog 14 (f14_cOf R_f14)) (hR_f6 : AnsOk Try.prog 6 (f6_cOf R_f6)) (hR_f19 : AnsOk Try.prog 19 (f19_cOf R_f19)) (hR_f5 : AnsOk Try.prog 5 (f5_cOf R_f5)) (hR_f20 : AnsOk Try.prog 20 (f20_cOf R_f20)) : CsOk Try.prog (f4_C R_f8 R_f14 R_f6 R_f19 R_f5 R_f20) := (orC_ok hR_f5 (orC_ok hR_f6 (orC_ok hR_f8 (orC_ok hR_f14 (orC_ok hR_f19 (orC_ok hR_f20 noC_ok))))))
def f4_cx (R_f8 : f8_R) (R_f14 : f14_R) (R_f6 : f6_R) (R_f19 : f19_R) (R_f5 : f5_R) (R_f20 : f20_R) (hR_f8 : AnsOk Try.prog 8 (f8_cOf R_f8)) (hR_f14 : AnsOk Try.prog 14 (f14_cOf R_f14)) (hR_f6 : AnsOk Try.prog 6 (f6_cOf R_f6)) (hR_f19 : AnsOk Try.prog 19 (f19_cOf R_f19)) (hR_f5 : AnsOk Try.prog 5 (f5_cOf R_f5)) (hR_f20 : AnsOk Try.prog 20 (f20_cOf R_f20)) : Cx := mkCx (tabOf rows) (f4_C R_f8 R_f14 R_f6 R_f19 R_f5 R_f20) md (cmpIn cmps) f4_plan (f4_Cok R_f8 R_f14 R_f6 R_f19 R_f5 R_f20 hR_f8 hR_f14 hR_f6 hR_f19 hR_f5 hR_f20)
def f4_T {X : Type} (R_f8 : f8_R) (R_f14 : f14_R) (R_f6 : f6_R) (R_f19 : f19_R) (R_f5 : f5_R) (R_f20 : f20_R) (k : Nat) (K : Bool → Option X)   : Option X :=
R_f8 _ (fun u1 =>
R_f14 _ (fun u2 =>
(bif (u1.2.1 == 0) then
(bif (u2.2.2.2.2.2.2.1 == 0) then
(bif (u2.2.1 == 1) then
(bif (u2.2.2.1 == 1) then
R_f6 _ (fun u3 =>
R_f19 _ (fun u4 =>
(bif (u4.1 == 0) then
R_f5 _ (fun u5 =>
R_f20 _ (fun u6 =>
K ((u6.1 == 0))) (0) (0) (u5)) 
else
K (false))) (0) (0) (u3)) 
else
K (false))
else
K (false))
else
K (false))
else
K (false))) ((List.take u1.1 (List.drop 0 u1.2.2)))) ((CV.agg [(CV.int .i64 0), (CV.int .i64 1), (CV.int .i64 1), (CV.slc none []), (CV.slc (some 2) []), (CV.slc none [])]))
/-- "outpost/outposttop.soundWire" -/
def f4_A (R_f8 : f8_R) (R_f14 : f14_R) (R_f6 : f6_R) (R_f19 : f19_R) (R_f5 : f5_R) (R_f20 : f20_R) (k : Nat) : f4_R := fun X K  => f4_T R_f8 R_f14 R_f6 R_f19 R_f5 R_f20 k K  
set_option maxRecDepth 100000 in
theorem f4_ev' {X : Type} (R_f8 : f8_R) (R_f14 : f14_R) (R_f6 : f6_R) (R_f19 : f19_R) (R_f5 : f5_R) (R_f20 : f20_R) (hR_f8 : AnsOk Try.prog 8 (f8_cOf R_f8)) (hR_f14 : AnsOk Try.prog 14 (f14_cOf R_f14)) (hR_f6 : AnsOk Try.prog 6 (f6_cOf R_f6)) (hR_f19 : AnsOk Try.prog 19 (f19_cOf R_f19)) (hR_f5 : AnsOk Try.prog 5 (f5_cOf R_f5)) (hR_f20 : AnsOk Try.prog 20 (f20_cOf R_f20)) (k : Nat) (K : Out → Option X)  : evFn (f4_cx R_f8 R_f14 R_f6 R_f19 R_f5 R_f20 hR_f8 hR_f14 hR_f6 hR_f19 hR_f5 hR_f20) [] k Try.f4.ntmps Try.f4.results.toList (Try.f4.body.getD .skip) [] [] K = f4_T R_f8 R_f14 R_f6 R_f19 R_f5 R_f20 k (fun u => K (f4_out u))  := by kernel_rfl
theorem f4_ev {X : Type} (R_f8 : f8_R) (R_f14 : f14_R) (R_f6 : f6_R) (R_f19 : f19_R) (R_f5 : f5_R) (R_f20 : f20_R) (hR_f8 : AnsOk Try.prog 8 (f8_cOf R_f8)) (hR_f14 : AnsOk Try.prog 14 (f14_cOf R_f14)) (hR_f6 : AnsOk Try.prog 6 (f6_cOf R_f6)) (hR_f19 : AnsOk Try.prog 19 (f19_cOf R_f19)) (hR_f5 : AnsOk Try.prog 5 (f5_cOf R_f5)) (hR_f20 : AnsOk Try.prog 20 (f20_cOf R_f20)) (k : Nat) (K : Out → Option X)  : evFn (f4_cx R_f8 R_f14 R_f6 R_f19 R_f5 R_f20 hR_f8 hR_f14 hR_f6 hR_f19 hR_f5 hR_f20) [] k Try.f4.ntmps Try.f4.results.toList (Try.f4.body.getD .skip) [] [] K = f4_A R_f8 R_f14 R_f6 R_f19 R_f5 R_f20 k X (fun u => K (f4_out u))  := (f4_ev' R_f8 R_f14 R_f6 R_f19 R_f5 R_f20 hR_f8 hR_f14 hR_f6 hR_f19 hR_f5 hR_f20 k K ).trans rfl
theorem f4_okA (R_f8 : f8_R) (R_f14 : f14_R) (R_f6 : f6_R) (R_f19 : f19_R) (R_f5 : f5_R) (R_f20 : f20_R) (hR_f8 : AnsOk Try.prog 8 (f8_cOf R_f8)) (hR_f14 : AnsOk Try.prog 14 (f14_cOf R_f14)) (hR_f6 : AnsOk Try.prog 6 (f6_cOf R_f6)) (hR_f19 : AnsOk Try.prog 19 (f19_cOf R_f19)) (hR_f5 : AnsOk Try.prog 5 (f5_cOf R_f5)) (hR_f20 : AnsOk Try.prog 20 (f20_cOf R_f20)) (k : Nat) : AnsOk Try.prog 4 (f4_cOf (f4_A R_f8 R_f14 R_f6 R_f19 R_f5 R_f20 k)) := by
  intro X xs ns K x h
  unfold f4_cOf at h ⊢
  split at h
  · exact ans_main S (f4_Cok R_f8 R_f14 R_f6 R_f19 R_f5 R_f20 hR_f8 hR_f14 hR_f6 hR_f19 hR_f5 hR_f20) Try.func4 (ent_of Try.func4 (by kernel_rfl) rfl) rfl (fun X K => f4_ev R_f8 R_f14 R_f6 R_f19 R_f5 R_f20 hR_f8 hR_f14 hR_f6 hR_f19 hR_f5 hR_f20 k K ) h
  · cases h
/-- "outpost/outposttop.soundWire" -/
def f4 {X : Type} (k : Nat) (K : Bool → Option X)  : Option X := f4_A (fun X => @f8 X k) (fun X => @f14 X k) (fun X => @f6 X k) (fun X => @f19 X k) (fun X => @f5 X k) (fun X => @f20 X k) k X K 
theorem f4_ok (k : Nat) : AnsOk Try.prog 4 (f4_cOf (fun X => @f4 X k)) := f4_okA (fun X => @f8 X k) (fun X => @f14 X k) (fun X => @f6 X k) (fun X => @f19 X k) (fun X => @f5 X k) (fun X => @f20 X k) (f8_ok k) (f14_ok k) (f6_ok k) (f19_ok k) (f5_ok k) (f20_ok k) k
abbrev f21_R : Type 1 := (X : Type) → (Bool → Option X) → (List CV) → Option X
def f21_out (u : Bool) : Out := ⟨(.v (CV.bool u)), []⟩
def f21_cOf (R : f21_R) : FnC := fun X xs ns K => match xs, ns with
  | [(.sl false (some 2) x0)], [] => R X (fun u => K (f21_out u)) x0
  | _, _ => none
def f21_plan : Nat → Option (List Nat × List Wk)
  | 0 => some ([0], [])
  | 1 => some ([0], [])
  | 2 => some ([], [])
  | 3 => some ([0], [])
  | 4 => some ([0, 3], [])
  | 5 => some ([0, 3], [])
  | 6 => some ([0, 3], [])
  | 7 => some ([], [])
  | 8 => some ([], [])
  | _ => none
def f21_C : Fns := noC
theorem f21_Cok : CsOk Try.prog (f21_C) := noC_ok
def f21_cx : Cx := mkCx (tabOf rows) (f21_C) md (cmpIn cmps) f21_plan (f21_Cok)
def f21_S1 (v : (List CV) × Int) : St := ⟨[(.sl false (some 2) v.1), .undef, .undef, (.v (CV.int .i64 v.2)), .undef, .undef, .undef, .undef, .undef, .undef, .undef, .undef, .undef, .undef, .undef, .undef, .undef, .undef, .undef, .undef], []⟩
def f21_T1 {X : Type} (k : Nat) (K : Bool → Option X)   (rec1 : (List CV) × Int → Option X) (v5_0 : (List CV) × Int) : Option X :=
(bif (decide (v5_0.2 < (Nat.cast ((List.length v5_0.1)) : Int))) then
grd (decide (0 ≤ v5_0.2)) <|
Option.bind (v5_0.1)[(Int.toNat v5_0.2)]? fun e8 =>
Option.bind (CV.cell e8 1) fun c9 =>
grd (CV.isL none c9) <|
(bif (decide ((Nat.cast ((List.length (CV.toL c9))) : Int) > 400)) then
K (false)
else
rec1 (v5_0.1, (IntKind.wrap .i64 (v5_0.2 + 1))))
else
K (true))
def f21_L1 {X : Type} (k : Nat) (K : Bool → Option X)  (rec1 : (List CV) × Int → Option X) (v : (List CV) × Int) : Option X := f21_T1 k K   rec1 v
set_option maxRecDepth 100000 in
theorem f21_L1_ev {X : Type} (k : Nat) (K : Out → Option X)  (r1 : St → Option X) (v : (List CV) × Int) : loopB (f21_cx) k [.r, .r, .l, .r, .b] (Try.f21.body.getD .skip) (retK (f21_cx) [] Try.f21.results.toList K) [] r1 (f21_S1 v) = f21_T1 k (fun u => K (f21_out u))   (fun v => r1 (f21_S1 v)) v := by kernel_rfl
theorem f21_L1_it {X : Type} (k : Nat) (K : Out → Option X)  : (fun v => iter (loopB (f21_cx) k [.r, .r, .l, .r, .b] (Try.f21.body.getD .skip) (retK (f21_cx) [] Try.f21.results.toList K) []) k (f21_S1 v)) = iterV (f21_L1 k (fun u => K (f21_out u)) ) k :=
  iter_map (fun r1 v => (f21_L1_ev k K  r1 v).trans rfl) k
def f21_T {X : Type} (k : Nat) (K : Bool → Option X) (loop1 : (List CV) × Int → Option X) (x0 : List CV) : Option X :=
(bif (decide ((Nat.cast ((List.length x0)) : Int) > 40)) then
K (false)
else
loop1 (x0, 0))
/-- "outpost/outpostref08.Few" -/
def f21_A (k : Nat) : f21_R := fun X K x0 => f21_T k K (iterV (f21_L1 k K) k) x0
set_option maxRecDepth 100000 in
theorem f21_ev' {X : Type} (k : Nat) (K : Out → Option X) (x0 : List CV) : evFn (f21_cx) [] k Try.f21.ntmps Try.f21.results.toList (Try.f21.body.getD .skip) [(.sl false (some 2) x0)] [] K = f21_T k (fun u => K (f21_out u)) (fun v => iter (loopB (f21_cx) k [.r, .r, .l, .r, .b] (Try.f21.body.getD .skip) (retK (f21_cx) [] Try.f21.results.toList K) []) k (f21_S1 v)) x0 := by kernel_rfl
theorem f21_ev {X : Type} (k : Nat) (K : Out → Option X) (x0 : List CV) : evFn (f21_cx) [] k Try.f21.ntmps Try.f21.results.toList (Try.f21.body.getD .skip) [(.sl false (some 2) x0)] [] K = f21_A k X (fun u => K (f21_out u)) x0 := (f21_ev' k K x0).trans (by rw [f21_L1_it k K]; rfl)
theorem f21_okA (k : Nat) : AnsOk Try.prog 21 (f21_cOf (f21_A k)) := by
  intro X xs ns K x h
  unfold f21_cOf at h ⊢
  split at h
  · exact ans_main S (f21_Cok) Try.func21 (ent_of Try.func21 (by kernel_rfl) rfl) rfl (fun X K => f21_ev k K _) h
  · cases h
/-- "outpost/outpostref08.Few" -/
def f21 {X : Type} (k : Nat) (K : Bool → Option X) (x0 : List CV) : Option X := f21_A k X K x0
theorem f21_ok (k : Nat) : AnsOk Try.prog 21 (f21_cOf (fun X => @f21 X k)) := f21_okA k
abbrev f7_R : Type 1 := (X : Type) → (Bool → Option X) → CV → Option X
def f7_out (u : Bool) : Out := ⟨(.v (CV.bool u)), []⟩
def f7_cOf (R : f7_R) : FnC := fun X xs ns K => match xs, ns with
  | [(.v x0)], [] => R X (fun u => K (f7_out u)) x0
  | _, _ => none
def f7_plan : Nat → Option (List Nat × List Wk)
  | 0 => some ([0], [])
  | 1 => some ([1], [])
  | _ => none
def f7_C (R_f21 : f21_R) : Fns := (orC 21 (f21_cOf R_f21) noC)
theorem f7_Cok (R_f21 : f21_R) (hR_f21 : AnsOk Try.prog 21 (f21_cOf R_f21)) : CsOk Try.prog (f7_C R_f21) := (orC_ok hR_f21 noC_ok)
def f7_cx (R_f21 : f21_R) (hR_f21 : AnsOk Try.prog 21 (f21_cOf R_f21)) : Cx := mkCx (tabOf rows) (f7_C R_f21) md (cmpIn cmps) f7_plan (f7_Cok R_f21 hR_f21)
def f7_T {X : Type} (R_f21 : f21_R) (k : Nat) (K : Bool → Option X)  (x0 : CV) : Option X :=
grd (CV.isA 6 x0) <|
grd (CV.isI .i64 (CV.cellD 0 x0)) <|
grd (CV.isI .i64 (CV.cellD 1 x0)) <|
grd (CV.isI .i64 (CV.cellD 2 x0)) <|
grd (CV.isL none (CV.cellD 3 x0)) <|
grd (CV.isL (some 2) (CV.cellD 4 x0)) <|
grd (CV.isL none (CV.cellD 5 x0)) <|
(bif (decide ((Nat.cast ((List.length (CV.toL (CV.cellD 3 x0)))) : Int) ≤ 100)) then
(bif (decide ((Nat.cast ((List.length (CV.toL (CV.cellD 5 x0)))) : Int) ≤ 2000)) then
R_f21 _ (fun u1 =>
K (u1)) ((CV.toL (CV.cellD 4 x0)))
else
K (false))
else
K (false))
/-- "outpost/outpostref09.Few" -/
def f7_A (R_f21 : f21_R) (k : Nat) : f7_R := fun X K x0 => f7_T R_f21 k K  x0
set_option maxRecDepth 100000 in
theorem f7_ev' {X : Type} (R_f21 : f21_R) (hR_f21 : AnsOk Try.prog 21 (f21_cOf R_f21)) (k : Nat) (K : Out → Option X) (x0 : CV) : evFn (f7_cx R_f21 hR_f21) [] k Try.f7.ntmps Try.f7.results.toList (Try.f7.body.getD .skip) [(.v x0)] [] K = f7_T R_f21 k (fun u => K (f7_out u)) x0 := by kernel_rfl
theorem f7_ev {X : Type} (R_f21 : f21_R) (hR_f21 : AnsOk Try.prog 21 (f21_cOf R_f21)) (k : Nat) (K : Out → Option X) (x0 : CV) : evFn (f7_cx R_f21 hR_f21) [] k Try.f7.ntmps Try.f7.results.toList (Try.f7.body.getD .skip) [(.v x0)] [] K = f7_A R_f21 k X (fun u => K (f7_out u)) x0 := (f7_ev' R_f21 hR_f21 k K x0).trans rfl
theorem f7_okA (R_f21 : f21_R) (hR_f21 : AnsOk Try.prog 21 (f21_cOf R_f21)) (k : Nat) : AnsOk Try.prog 7 (f7_cOf (f7_A R_f21 k)) := by
  intro X xs ns K x h
  unfold f7_cOf at h ⊢
  split at h
  · exact ans_main S (f7_Cok R_f21 hR_f21) Try.func7 (ent_of Try.func7 (by kernel_rfl) rfl) rfl (fun X K => f7_ev R_f21 hR_f21 k K _) h
  · cases h
/-- "outpost/outpostref09.Few" -/
def f7 {X : Type} (k : Nat) (K : Bool → Option X) (x0 : CV) : Option X := f7_A (fun X => @f21 X k) k X K x0
theorem f7_ok (k : Nat) : AnsOk Try.prog 7 (f7_cOf (fun X => @f7 X k)) := f7_okA (fun X => @f21 X k) (f21_ok k) k
abbrev f9_R : Type 1 := (X : Type) → (Bool → Option X) → CV → Option X
def f9_out (u : Bool) : Out := ⟨(.v (CV.bool u)), []⟩
def f9_cOf (R : f9_R) : FnC := fun X xs ns K => match xs, ns with
  | [(.v x0)], [] => R X (fun u => K (f9_out u)) x0
  | _, _ => none
def f9_plan : Nat → Option (List Nat × List Wk)
  | 0 => some ([0], [])
  | 1 => some ([1], [])
  | _ => none
def f9_C (R_f26 : f26_R) : Fns := (orC 26 (f26_cOf R_f26) noC)
theorem f9_Cok (R_f26 : f26_R) (hR_f26 : AnsOk Try.prog 26 (f26_cOf R_f26)) : CsOk Try.prog (f9_C R_f26) := (orC_ok hR_f26 noC_ok)
def f9_cx (R_f26 : f26_R) (hR_f26 : AnsOk Try.prog 26 (f26_cOf R_f26)) : Cx := mkCx (tabOf rows) (f9_C R_f26) md (cmpIn cmps) f9_plan (f9_Cok R_f26 hR_f26)
def f9_T {X : Type} (R_f26 : f26_R) (k : Nat) (K : Bool → Option X)  (x0 : CV) : Option X :=
grd (CV.isA 6 x0) <|
grd (CV.isI .i64 (CV.cellD 0 x0)) <|
grd (CV.isI .i64 (CV.cellD 1 x0)) <|
grd (CV.isI .i64 (CV.cellD 2 x0)) <|
grd (CV.isL none (CV.cellD 3 x0)) <|
grd (CV.isL (some 2) (CV.cellD 4 x0)) <|
grd (CV.isL none (CV.cellD 5 x0)) <|
R_f26 _ (fun u1 =>
(bif (u1 == 0) then
K (((CV.toI (CV.cellD 1 x0)) != 0))
else
K (false))) ((CV.toI (CV.cellD 1 x0)))
/-- "outpost/msg.Request" -/
def f9_A (R_f26 : f26_R) (k : Nat) : f9_R := fun X K x0 => f9_T R_f26 k K  x0
set_option maxRecDepth 100000 in
theorem f9_ev' {X : Type} (R_f26 : f26_R) (hR_f26 : AnsOk Try.prog 26 (f26_cOf R_f26)) (k : Nat) (K : Out → Option X) (x0 : CV) : evFn (f9_cx R_f26 hR_f26) [] k Try.f9.ntmps Try.f9.results.toList (Try.f9.body.getD .skip) [(.v x0)] [] K = f9_T R_f26 k (fun u => K (f9_out u)) x0 := by kernel_rfl
theorem f9_ev {X : Type} (R_f26 : f26_R) (hR_f26 : AnsOk Try.prog 26 (f26_cOf R_f26)) (k : Nat) (K : Out → Option X) (x0 : CV) : evFn (f9_cx R_f26 hR_f26) [] k Try.f9.ntmps Try.f9.results.toList (Try.f9.body.getD .skip) [(.v x0)] [] K = f9_A R_f26 k X (fun u => K (f9_out u)) x0 := (f9_ev' R_f26 hR_f26 k K x0).trans rfl
theorem f9_okA (R_f26 : f26_R) (hR_f26 : AnsOk Try.prog 26 (f26_cOf R_f26)) (k : Nat) : AnsOk Try.prog 9 (f9_cOf (f9_A R_f26 k)) := by
  intro X xs ns K x h
  unfold f9_cOf at h ⊢
  split at h
  · exact ans_main S (f9_Cok R_f26 hR_f26) Try.func9 (ent_of Try.func9 (by kernel_rfl) rfl) rfl (fun X K => f9_ev R_f26 hR_f26 k K _) h
  · cases h
/-- "outpost/msg.Request" -/
def f9 {X : Type} (k : Nat) (K : Bool → Option X) (x0 : CV) : Option X := f9_A (fun X => @f26 X k) k X K x0
theorem f9_ok (k : Nat) : AnsOk Try.prog 9 (f9_cOf (fun X => @f9 X k)) := f9_okA (fun X => @f26 X k) (f26_ok k) k
abbrev f27_R : Type 1 := (X : Type) → (Nat × Int × (List CV) → Option X) → Int → Nat → Int → (List CV) → Option X
def f27_out (u : Nat × Int × (List CV)) : Out := ⟨(.tup []), [([1000], (.obj [(.osl [0, 1000] (some 6) 0 u.1), (.v (CV.int .i64 u.2.1))])), ([0, 1000], (.row false (some 6) u.2.2))]⟩
def f27_cOf (R : f27_R) : FnC := fun X xs ns K => match xs, ns with
  | [(.ptr [1000] 0 0 0), (.v (CV.int .i64 x0))], [([1000], (.obj [(.osl [0, 1000] (some 6) 0 x1), (.v (CV.int .i64 x2))])), ([0, 1000], (.row false (some 6) x3))] => R X (fun u => K (f27_out u)) x0 x1 x2 x3
  | _, _ => none
def f27_plan : Nat → Option (List Nat × List Wk)
  | 0 => some ([0, 1], [])
  | _ => none
def f27_C : Fns := noC
theorem f27_Cok : CsOk Try.prog (f27_C) := noC_ok
def f27_cx : Cx := mkCx (tabOf rows) (f27_C) md (cmpIn cmps) f27_plan (f27_Cok)
def f27_T {X : Type} (k : Nat) (K : Nat × Int × (List CV) → Option X)  (x0 : Int) (x1 : Nat) (x2 : Int) (x3 : List CV) : Option X :=
K (x1, (if 1099511627776 < (if x2 > x0 then x2 else x0) then 1099511627776 else (if x2 > x0 then x2 else x0)), (List.take (0 + x1) x3))
/-- "(*outpost/exch.Table).pass" -/
def f27_A (k : Nat) : f27_R := fun X K x0 x1 x2 x3 => f27_T k K  x0 x1 x2 x3
set_option maxRecDepth 100000 in
theorem f27_ev' {X : Type} (k : Nat) (K : Out → Option X) (x0 : Int) (x1 : Nat) (x2 : Int) (x3 : List CV) : evFn (f27_cx) [] k Try.f27.ntmps Try.f27.results.toList (Try.f27.body.getD .skip) [(.ptr [1000] 0 0 0), (.v (CV.int .i64 x0))] [([1000], (.obj [(.osl [0, 1000] (some 6) 0 x1), (.v (CV.int .i64 x2))])), ([0, 1000], (.row false (some 6) x3))] K = f27_T k (fun u => K (f27_out u)) x0 x1 x2 x3 := by kernel_rfl
theorem f27_ev {X : Type} (k : Nat) (K : Out → Option X) (x0 : Int) (x1 : Nat) (x2 : Int) (x3 : List CV) : evFn (f27_cx) [] k Try.f27.ntmps Try.f27.results.toList (Try.f27.body.getD .skip) [(.ptr [1000] 0 0 0), (.v (CV.int .i64 x0))] [([1000], (.obj [(.osl [0, 1000] (some 6) 0 x1), (.v (CV.int .i64 x2))])), ([0, 1000], (.row false (some 6) x3))] K = f27_A k X (fun u => K (f27_out u)) x0 x1 x2 x3 := (f27_ev' k K x0 x1 x2 x3).trans rfl
theorem f27_okA (k : Nat) : AnsOk Try.prog 27 (f27_cOf (f27_A k)) := by
  intro X xs ns K x h
  unfold f27_cOf at h ⊢
  split at h
  · exact ans_main S (f27_Cok) Try.func27 (ent_of Try.func27 (by kernel_rfl) rfl) rfl (fun X K => f27_ev k K _ _ _ _) h
  · cases h
/-- "(*outpost/exch.Table).pass" -/
def f27 {X : Type} (k : Nat) (K : Nat × Int × (List CV) → Option X) (x0 : Int) (x1 : Nat) (x2 : Int) (x3 : List CV) : Option X := f27_A k X K x0 x1 x2 x3
theorem f27_ok (k : Nat) : AnsOk Try.prog 27 (f27_cOf (fun X => @f27 X k)) := f27_okA k
abbrev f51_R : Type 1 := (X : Type) → (Bool → Option X) → CV → Int → Int → Option X
def f51_out (u : Bool) : Out := ⟨(.v (CV.bool u)), []⟩
def f51_cOf (R : f51_R) : FnC := fun X xs ns K => match xs, ns with
  | [(.v x0), (.bptr none (CV.int .i64 x1) 0), (.bptr none (CV.int .i64 x2) 0)], [] => R X (fun u => K (f51_out u)) x0 x1 x2
  | _, _ => none
def f51_plan : Nat → Option (List Nat × List Wk)
  | 0 => some ([0, 1, 2], [])
  | 1 => some ([1, 2, 3], [])
  | _ => none
def f51_C : Fns := noC
theorem f51_Cok : CsOk Try.prog (f51_C) := noC_ok
def f51_cx : Cx := mkCx (tabOf rows) (f51_C) md (cmpIn cmps) f51_plan (f51_Cok)
def f51_T {X : Type} (k : Nat) (K : Bool → Option X)  (x0 : CV) (x1 : Int) (x2 : Int) : Option X :=
grd (CV.isA 6 x0) <|
grd (CV.isI .i64 (CV.cellD 0 x0)) <|
grd (CV.isI .i64 (CV.cellD 1 x0)) <|
grd (CV.isL none (CV.cellD 2 x0)) <|
grd (CV.isI .i64 (CV.cellD 3 x0)) <|
grd (CV.isI .i64 (CV.cellD 4 x0)) <|
grd (CV.isI .i64 (CV.cellD 5 x0)) <|
(bif ((CV.toI (CV.cellD 0 x0)) == x1) then
K (((CV.toI (CV.cellD 1 x0)) == x2))
else
K (false))
/-- "(*outpost/exch.Table).index$1" -/
def f51_A (k : Nat) : f51_R := fun X K x0 x1 x2 => f51_T k K  x0 x1 x2
set_option maxRecDepth 100000 in
theorem f51_ev' {X : Type} (k : Nat) (K : Out → Option X) (x0 : CV) (x1 : Int) (x2 : Int) : evFn (f51_cx) [] k Try.f51.ntmps Try.f51.results.toList (Try.f51.body.getD .skip) [(.v x0), (.bptr none (CV.int .i64 x1) 0), (.bptr none (CV.int .i64 x2) 0)] [] K = f51_T k (fun u => K (f51_out u)) x0 x1 x2 := by kernel_rfl
theorem f51_ev {X : Type} (k : Nat) (K : Out → Option X) (x0 : CV) (x1 : Int) (x2 : Int) : evFn (f51_cx) [] k Try.f51.ntmps Try.f51.results.toList (Try.f51.body.getD .skip) [(.v x0), (.bptr none (CV.int .i64 x1) 0), (.bptr none (CV.int .i64 x2) 0)] [] K = f51_A k X (fun u => K (f51_out u)) x0 x1 x2 := (f51_ev' k K x0 x1 x2).trans rfl
theorem f51_okA (k : Nat) : AnsOk Try.prog 51 (f51_cOf (f51_A k)) := by
  intro X xs ns K x h
  unfold f51_cOf at h ⊢
  split at h
  · exact ans_main S (f51_Cok) Try.func51 (ent_of Try.func51 (by kernel_rfl) rfl) rfl (fun X K => f51_ev k K _ _ _) h
  · cases h
/-- "(*outpost/exch.Table).index$1" -/
def f51 {X : Type} (k : Nat) (K : Bool → Option X) (x0 : CV) (x1 : Int) (x2 : Int) : Option X := f51_A k X K x0 x1 x2
theorem f51_ok (k : Nat) : AnsOk Try.prog 51 (f51_cOf (fun X => @f51 X k)) := f51_okA k
abbrev f50_R : Type 1 := (X : Type) → (Int → Option X) → (List CV) → Int → Int → Option X
def f50_out (u : Int) : Out := ⟨(.v (CV.int .i64 u)), []⟩
def f50_cOf (R : f50_R) : FnC := fun X xs ns K => match xs, ns with
  | [(.sl false (some 6) x0), (.fn 51 [(.bptr none (CV.int .i64 x1) 0), (.bptr none (CV.int .i64 x2) 0)])], [] => R X (fun u => K (f50_out u)) x0 x1 x2
  | _, _ => none
def f50_plan : Nat → Option (List Nat × List Wk)
  | 0 => some ([0, 1], [])
  | 1 => some ([0, 1], [])
  | 2 => some ([0, 1, 7, 8], [])
  | 3 => some ([0, 1, 7, 8], [])
  | 4 => some ([0, 1, 5, 7, 8], [])
  | 5 => some ([5], [])
  | 6 => some ([0, 1, 7, 8], [])
  | 7 => some ([], [])
  | _ => none
def f50_C (R_f51 : f51_R) : Fns := (orC 51 (f51_cOf R_f51) noC)
theorem f50_Cok (R_f51 : f51_R) (hR_f51 : AnsOk Try.prog 51 (f51_cOf R_f51)) : CsOk Try.prog (f50_C R_f51) := (orC_ok hR_f51 noC_ok)
def f50_cx (R_f51 : f51_R) (hR_f51 : AnsOk Try.prog 51 (f51_cOf R_f51)) : Cx := mkCx (tabOf rows) (f50_C R_f51) md (cmpIn cmps) f50_plan (f50_Cok R_f51 hR_f51)
def f50_S1 (v : (List CV) × Int × Int × Int × Int) : St := ⟨[(.sl false (some 6) v.1), (.fn 51 [(.bptr none (CV.int .i64 v.2.1) 0), (.bptr none (CV.int .i64 v.2.2.1) 0)]), .undef, .undef, .undef, .undef, .undef, (.v (CV.int .i64 v.2.2.2.1)), (.v (CV.int .i64 v.2.2.2.2)), .undef, .undef, .undef, .undef, .undef, .undef, .undef, .undef, .undef, .undef], []⟩
def f50_T1 {X : Type} (R_f51 : f51_R) (k : Nat) (K : Int → Option X)   (rec1 : (List CV) × Int × Int × Int × Int → Option X) (v4_0 : (List CV) × Int × Int × Int × Int) : Option X :=
(bif (decide (v4_0.2.2.2.2 < v4_0.2.2.2.1)) then
grd (decide (0 ≤ v4_0.2.2.2.2)) <|
Option.bind (v4_0.1)[(Int.toNat v4_0.2.2.2.2)]? fun e8 =>
R_f51 _ (fun u9 =>
(bif u9 then
K (v4_0.2.2.2.2)
else
rec1 (v4_0.1, v4_0.2.1, v4_0.2.2.1, v4_0.2.2.2.1, (IntKind.wrap .i64 (v4_0.2.2.2.2 + 1))))) (e8) (v4_0.2.1) (v4_0.2.2.1)
else
K ((-1)))
def f50_L1 {X : Type} (R_f51 : f51_R) (k : Nat) (K : Int → Option X)  (rec1 : (List CV) × Int × Int × Int × Int → Option X) (v : (List CV) × Int × Int × Int × Int) : Option X := f50_T1 R_f51 k K   rec1 v
set_option maxRecDepth 100000 in
theorem f50_L1_ev {X : Type} (R_f51 : f51_R) (hR_f51 : AnsOk Try.prog 51 (f51_cOf R_f51)) (k : Nat) (K : Out → Option X)  (r1 : St → Option X) (v : (List CV) × Int × Int × Int × Int) : loopB (f50_cx R_f51 hR_f51) k [.r, .l, .r, .b] (Try.f50.body.getD .skip) (retK (f50_cx R_f51 hR_f51) [] Try.f50.results.toList K) [] r1 (f50_S1 v) = f50_T1 R_f51 k (fun u => K (f50_out u))   (fun v => r1 (f50_S1 v)) v := by kernel_rfl
theorem f50_L1_it {X : Type} (R_f51 : f51_R) (hR_f51 : AnsOk Try.prog 51 (f51_cOf R_f51)) (k : Nat) (K : Out → Option X)  : (fun v => iter (loopB (f50_cx R_f51 hR_f51) k [.r, .l, .r, .b] (Try.f50.body.getD .skip) (retK (f50_cx R_f51 hR_f51) [] Try.f50.results.toList K) []) k (f50_S1 v)) = iterV (f50_L1 R_f51 k (fun u => K (f50_out u)) ) k :=
  iter_map (fun r1 v => (f50_L1_ev R_f51 hR_f51 k K  r1 v).trans rfl) k
def f50_T {X : Type} (R_f51 : f51_R) (k : Nat) (K : Int → Option X) (loop1 : (List CV) × Int × Int × Int × Int → Option X) (x0 : List CV) (x1 : Int) (x2 : Int) : Option X :=
loop1 (x0, x1, x2, (Nat.cast ((List.length x0)) : Int), 0)
/-- "slices.IndexFunc[[]outpost/exch.exchange,outpost/exch.exchange]" -/
def f50_A (R_f51 : f51_R) (k : Nat) : f50_R := fun X K x0 x1 x2 => f50_T R_f51 k K (iterV (f50_L1 R_f51 k K) k) x0 x1 x2
set_option maxRecDepth 100000 in
theorem f50_ev' {X : Type} (R_f51 : f51_R) (hR_f51 : AnsOk Try.prog 51 (f51_cOf R_f51)) (k : Nat) (K : Out → Option X) (x0 : List CV) (x1 : Int) (x2 : Int) : evFn (f50_cx R_f51 hR_f51) [] k Try.f50.ntmps Try.f50.results.toList (Try.f50.body.getD .skip) [(.sl false (some 6) x0), (.fn 51 [(.bptr none (CV.int .i64 x1) 0), (.bptr none (CV.int .i64 x2) 0)])] [] K = f50_T R_f51 k (fun u => K (f50_out u)) (fun v => iter (loopB (f50_cx R_f51 hR_f51) k [.r, .l, .r, .b] (Try.f50.body.getD .skip) (retK (f50_cx R_f51 hR_f51) [] Try.f50.results.toList K) []) k (f50_S1 v)) x0 x1 x2 := by kernel_rfl
theorem f50_ev {X : Type} (R_f51 : f51_R) (hR_f51 : AnsOk Try.prog 51 (f51_cOf R_f51)) (k : Nat) (K : Out → Option X) (x0 : List CV) (x1 : Int) (x2 : Int) : evFn (f50_cx R_f51 hR_f51) [] k Try.f50.ntmps Try.f50.results.toList (Try.f50.body.getD .skip) [(.sl false (some 6) x0), (.fn 51 [(.bptr none (CV.int .i64 x1) 0), (.bptr none (CV.int .i64 x2) 0)])] [] K = f50_A R_f51 k X (fun u => K (f50_out u)) x0 x1 x2 := (f50_ev' R_f51 hR_f51 k K x0 x1 x2).trans (by rw [f50_L1_it R_f51 hR_f51 k K]; rfl)
theorem f50_okA (R_f51 : f51_R) (hR_f51 : AnsOk Try.prog 51 (f51_cOf R_f51)) (k : Nat) : AnsOk Try.prog 50 (f50_cOf (f50_A R_f51 k)) := by
  intro X xs ns K x h
  unfold f50_cOf at h ⊢
  split at h
  · exact ans_main S (f50_Cok R_f51 hR_f51) Try.func50 (ent_of Try.func50 (by kernel_rfl) rfl) rfl (fun X K => f50_ev R_f51 hR_f51 k K _ _ _) h
  · cases h
/-- "slices.IndexFunc[[]outpost/exch.exchange,outpost/exch.exchange]" -/
def f50 {X : Type} (k : Nat) (K : Int → Option X) (x0 : List CV) (x1 : Int) (x2 : Int) : Option X := f50_A (fun X => @f51 X k) k X K x0 x1 x2
theorem f50_ok (k : Nat) : AnsOk Try.prog 50 (f50_cOf (fun X => @f50 X k)) := f50_okA (fun X => @f51 X k) (f51_ok k) k
abbrev f41_R : Type 1 := (X : Type) → (Int × Nat × Int × (List CV) → Option X) → Int → Int → Nat → Int → (List CV) → Option X
def f41_out (u : Int × Nat × Int × (List CV)) : Out := ⟨(.v (CV.int .i64 u.1)), [([1000], (.obj [(.osl [0, 1000] (some 6) 0 u.2.1), (.v (CV.int .i64 u.2.2.1))])), ([0, 1000], (.row false (some 6) u.2.2.2))]⟩
def f41_cOf (R : f41_R) : FnC := fun X xs ns K => match xs, ns with
  | [(.ptr [1000] 0 0 0), (.v (CV.int .i64 x0)), (.v (CV.int .i64 x1))], [([1000], (.obj [(.osl [0, 1000] (some 6) 0 x2), (.v (CV.int .i64 x3))])), ([0, 1000], (.row false (some 6) x4))] => R X (fun u => K (f41_out u)) x0 x1 x2 x3 x4
  | _, _ => none
def f41_plan : Nat → Option (List Nat × List Wk)
  | 0 => some ([0, 1, 2], [])
  | 1 => some ([0, 4, 5], [])
  | _ => none
def f41_C (R_f50 : f50_R) : Fns := (orC 50 (f50_cOf R_f50) noC)
theorem f41_Cok (R_f50 : f50_R) (hR_f50 : AnsOk Try.prog 50 (f50_cOf R_f50)) : CsOk Try.prog (f41_C R_f50) := (orC_ok hR_f50 noC_ok)
def f41_cx (R_f50 : f50_R) (hR_f50 : AnsOk Try.prog 50 (f50_cOf R_f50)) : Cx := mkCx (tabOf rows) (f41_C R_f50) md (cmpIn cmps) f41_plan (f41_Cok R_f50 hR_f50)
def f41_T {X : Type} (R_f50 : f50_R) (k : Nat) (K : Int × Nat × Int × (List CV) → Option X)  (x0 : Int) (x1 : Int) (x2 : Nat) (x3 : Int) (x4 : List CV) : Option X :=
R_f50 _ (fun u1 =>
K (u1, x2, x3, (List.take (0 + x2) x4))) ((List.take x2 (List.drop 0 x4))) (x0) (x1)
/-- "(*outpost/exch.Table).index" -/
def f41_A (R_f50 : f50_R) (k : Nat) : f41_R := fun X K x0 x1 x2 x3 x4 => f41_T R_f50 k K  x0 x1 x2 x3 x4
set_option maxRecDepth 100000 in
theorem f41_ev' {X : Type} (R_f50 : f50_R) (hR_f50 : AnsOk Try.prog 50 (f50_cOf R_f50)) (k : Nat) (K : Out → Option X) (x0 : Int) (x1 : Int) (x2 : Nat) (x3 : Int) (x4 : List CV) : evFn (f41_cx R_f50 hR_f50) [] k Try.f41.ntmps Try.f41.results.toList (Try.f41.body.getD .skip) [(.ptr [1000] 0 0 0), (.v (CV.int .i64 x0)), (.v (CV.int .i64 x1))] [([1000], (.obj [(.osl [0, 1000] (some 6) 0 x2), (.v (CV.int .i64 x3))])), ([0, 1000], (.row false (some 6) x4))] K = f41_T R_f50 k (fun u => K (f41_out u)) x0 x1 x2 x3 x4 := by kernel_rfl
theorem f41_ev {X : Type} (R_f50 : f50_R) (hR_f50 : AnsOk Try.prog 50 (f50_cOf R_f50)) (k : Nat) (K : Out → Option X) (x0 : Int) (x1 : Int) (x2 : Nat) (x3 : Int) (x4 : List CV) : evFn (f41_cx R_f50 hR_f50) [] k Try.f41.ntmps Try.f41.results.toList (Try.f41.body.getD .skip) [(.ptr [1000] 0 0 0), (.v (CV.int .i64 x0)), (.v (CV.int .i64 x1))] [([1000], (.obj [(.osl [0, 1000] (some 6) 0 x2), (.v (CV.int .i64 x3))])), ([0, 1000], (.row false (some 6) x4))] K = f41_A R_f50 k X (fun u => K (f41_out u)) x0 x1 x2 x3 x4 := (f41_ev' R_f50 hR_f50 k K x0 x1 x2 x3 x4).trans rfl
theorem f41_okA (R_f50 : f50_R) (hR_f50 : AnsOk Try.prog 50 (f50_cOf R_f50)) (k : Nat) : AnsOk Try.prog 41 (f41_cOf (f41_A R_f50 k)) := by
  intro X xs ns K x h
  unfold f41_cOf at h ⊢
  split at h
  · exact ans_main S (f41_Cok R_f50 hR_f50) Try.func41 (ent_of Try.func41 (by kernel_rfl) rfl) rfl (fun X K => f41_ev R_f50 hR_f50 k K _ _ _ _ _) h
  · cases h
/-- "(*outpost/exch.Table).index" -/
def f41 {X : Type} (k : Nat) (K : Int × Nat × Int × (List CV) → Option X) (x0 : Int) (x1 : Int) (x2 : Nat) (x3 : Int) (x4 : List CV) : Option X := f41_A (fun X => @f50 X k) k X K x0 x1 x2 x3 x4
theorem f41_ok (k : Nat) : AnsOk Try.prog 41 (f41_cOf (fun X => @f41 X k)) := f41_okA (fun X => @f50 X k) (f50_ok k) k
abbrev f28_R : Type 1 := (X : Type) → (Bool × Nat × Int × (List CV) → Option X) → Int → Int → Nat → Int → (List CV) → Option X
def f28_out (u : Bool × Nat × Int × (List CV)) : Out := ⟨(.v (CV.bool u.1)), [([1000], (.obj [(.osl [0, 1000] (some 6) 0 u.2.1), (.v (CV.int .i64 u.2.2.1))])), ([0, 1000], (.row false (some 6) u.2.2.2))]⟩
def f28_cOf (R : f28_R) : FnC := fun X xs ns K => match xs, ns with
  | [(.ptr [1000] 0 0 0), (.v (CV.int .i64 x0)), (.v (CV.int .i64 x1))], [([1000], (.obj [(.osl [0, 1000] (some 6) 0 x2), (.v (CV.int .i64 x3))])), ([0, 1000], (.row false (some 6) x4))] => R X (fun u => K (f28_out u)) x0 x1 x2 x3 x4
  | _, _ => none
def f28_plan : Nat → Option (List Nat × List Wk)
  | 0 => some ([0, 1, 2], [])
  | 1 => some ([0, 1, 2], [])
  | _ => none
def f28_C (R_f41 : f41_R) : Fns := (orC 41 (f41_cOf R_f41) noC)
theorem f28_Cok (R_f41 : f41_R) (hR_f41 : AnsOk Try.prog 41 (f41_cOf R_f41)) : CsOk Try.prog (f28_C R_f41) := (orC_ok hR_f41 noC_ok)
def f28_cx (R_f41 : f41_R) (hR_f41 : AnsOk Try.prog 41 (f41_cOf R_f41)) : Cx := mkCx (tabOf rows) (f28_C R_f41) md (cmpIn cmps) f28_plan (f28_Cok R_f41 hR_f41)
def f28_T {X : Type} (R_f41 : f41_R) (k : Nat) (K : Bool × Nat × Int × (List CV) → Option X)  (x0 : Int) (x1 : Int) (x2 : Nat) (x3 : Int) (x4 : List CV) : Option X :=
R_f41 _ (fun u1 =>
K ((decide (u1.1 ≥ 0)), u1.2.1, u1.2.2.1, (List.take (0 + u1.2.1) u1.2.2.2))) (x0) (x1) (x2) (x3) (x4)
/-- "(*outpost/exch.Table).Has" -/
def f28_A (R_f41 : f41_R) (k : Nat) : f28_R := fun X K x0 x1 x2 x3 x4 => f28_T R_f41 k K  x0 x1 x2 x3 x4
set_option maxRecDepth 100000 in
theorem f28_ev' {X : Type} (R_f41 : f41_R) (hR_f41 : AnsOk Try.prog 41 (f41_cOf R_f41)) (k : Nat) (K : Out → Option X) (x0 : Int) (x1 : Int) (x2 : Nat) (x3 : Int) (x4 : List CV) : evFn (f28_cx R_f41 hR_f41) [] k Try.f28.ntmps Try.f28.results.toList (Try.f28.body.getD .skip) [(.ptr [1000] 0 0 0), (.v (CV.int .i64 x0)), (.v (CV.int .i64 x1))] [([1000], (.obj [(.osl [0, 1000] (some 6) 0 x2), (.v (CV.int .i64 x3))])), ([0, 1000], (.row false (some 6) x4))] K = f28_T R_f41 k (fun u => K (f28_out u)) x0 x1 x2 x3 x4 := by kernel_rfl
theorem f28_ev {X : Type} (R_f41 : f41_R) (hR_f41 : AnsOk Try.prog 41 (f41_cOf R_f41)) (k : Nat) (K : Out → Option X) (x0 : Int) (x1 : Int) (x2 : Nat) (x3 : Int) (x4 : List CV) : evFn (f28_cx R_f41 hR_f41) [] k Try.f28.ntmps Try.f28.results.toList (Try.f28.body.getD .skip) [(.ptr [1000] 0 0 0), (.v (CV.int .i64 x0)), (.v (CV.int .i64 x1))] [([1000], (.obj [(.osl [0, 1000] (some 6) 0 x2), (.v (CV.int .i64 x3))])), ([0, 1000], (.row false (some 6) x4))] K = f28_A R_f41 k X (fun u => K (f28_out u)) x0 x1 x2 x3 x4 := (f28_ev' R_f41 hR_f41 k K x0 x1 x2 x3 x4).trans rfl
theorem f28_okA (R_f41 : f41_R) (hR_f41 : AnsOk Try.prog 41 (f41_cOf R_f41)) (k : Nat) : AnsOk Try.prog 28 (f28_cOf (f28_A R_f41 k)) := by
  intro X xs ns K x h
  unfold f28_cOf at h ⊢
  split at h
  · exact ans_main S (f28_Cok R_f41 hR_f41) Try.func28 (ent_of Try.func28 (by kernel_rfl) rfl) rfl (fun X K => f28_ev R_f41 hR_f41 k K _ _ _ _ _) h
  · cases h
/-- "(*outpost/exch.Table).Has" -/
def f28 {X : Type} (k : Nat) (K : Bool × Nat × Int × (List CV) → Option X) (x0 : Int) (x1 : Int) (x2 : Nat) (x3 : Int) (x4 : List CV) : Option X := f28_A (fun X => @f41 X k) k X K x0 x1 x2 x3 x4
theorem f28_ok (k : Nat) : AnsOk Try.prog 28 (f28_cOf (fun X => @f28 X k)) := f28_okA (fun X => @f41 X k) (f41_ok k) k
abbrev f10_R : Type 1 := (X : Type) → (Int × Nat × Int × (List CV) → Option X) → Int → Int → (List CV) → Int → Int → Nat → Int → (List CV) → Option X
def f10_out (u : Int × Nat × Int × (List CV)) : Out := ⟨(.v (CV.int .i64 u.1)), [([1000], (.obj [(.osl [0, 1000] (some 6) 0 u.2.1), (.v (CV.int .i64 u.2.2.1))])), ([0, 1000], (.row false (some 6) u.2.2.2))]⟩
def f10_cOf (R : f10_R) : FnC := fun X xs ns K => match xs, ns with
  | [(.ptr [1000] 0 0 0), (.v (CV.int .i64 x0)), (.v (CV.int .i64 x1)), (.sl false none x2), (.v (CV.int .i64 x3)), (.v (CV.int .i64 x4))], [([1000], (.obj [(.osl [0, 1000] (some 6) 0 x5), (.v (CV.int .i64 x6))])), ([0, 1000], (.row false (some 6) x7))] => R X (fun u => K (f10_out u)) x0 x1 x2 x3 x4 x5 x6 x7
  | _, _ => none
def f10_plan : Nat → Option (List Nat × List Wk)
  | 0 => some ([0, 1, 2, 3, 4, 5], [])
  | 1 => some ([0, 1, 2, 3, 4, 5], [])
  | 2 => some ([0, 1, 2, 3, 5], [])
  | 3 => some ([], [])
  | 4 => some ([0, 1, 2, 3, 5], [])
  | 5 => some ([], [])
  | 6 => some ([0, 1, 2, 3, 5], [])
  | 7 => some ([0, 1, 2, 3, 13], [])
  | 8 => some ([], [])
  | _ => none
def f10_C (R_f27 : f27_R) (R_f28 : f28_R) (R_f29 : f29_R) : Fns := (orC 27 (f27_cOf R_f27) (orC 28 (f28_cOf R_f28) (orC 29 (f29_cOf R_f29) noC)))
theorem f10_Cok (R_f27 : f27_R) (R_f28 : f28_R) (R_f29 : f29_R) (hR_f27 : AnsOk Try.prog 27 (f27_cOf R_f27)) (hR_f28 : AnsOk Try.prog 28 (f28_cOf R_f28)) (hR_f29 : AnsOk Try.prog 29 (f29_cOf R_f29)) : CsOk Try.prog (f10_C R_f27 R_f28 R_f29) := (orC_ok hR_f27 (orC_ok hR_f28 (orC_ok hR_f29 noC_ok)))
def f10_cx (R_f27 : f27_R) (R_f28 : f28_R) (R_f29 : f29_R) (hR_f27 : AnsOk Try.prog 27 (f27_cOf R_f27)) (hR_f28 : AnsOk Try.prog 28 (f28_cOf R_f28)) (hR_f29 : AnsOk Try.prog 29 (f29_cOf R_f29)) : Cx := mkCx (tabOf rows) (f10_C R_f27 R_f28 R_f29) md (cmpIn cmps) f10_plan (f10_Cok R_f27 R_f28 R_f29 hR_f27 hR_f28 hR_f29)
def f10_T {X : Type} (R_f27 : f27_R) (R_f28 : f28_R) (R_f29 : f29_R) (k : Nat) (K : Int × Nat × Int × (List CV) → Option X)  (x0 : Int) (x1 : Int) (x2 : List CV) (x3 : Int) (x4 : Int) (x5 : Nat) (x6 : Int) (x7 : List CV) : Option X :=
R_f27 _ (fun u1 =>
R_f28 _ (fun u3 =>
(bif u3.1 then
K (5, u3.2.1, u3.2.2.1, (List.take (0 + u3.2.1) u3.2.2.2))
else
(bif (decide ((Nat.cast (u3.2.1) : Int) ≥ 4)) then
K (6, u3.2.1, u3.2.2.1, (List.take (0 + u3.2.1) u3.2.2.2))
else
R_f29 _ (fun u4 =>
grd (decide ((u3.2.1 + (List.length (List.take 1 (List.drop 0 [(CV.agg [(CV.int .i64 x0), (CV.int .i64 x1), (CV.slc none (List.take (List.length u4) (List.drop 0 u4))), (CV.int .i64 (if 1099511627776 < (IntKind.wrap .i64 (u3.2.2.1 + (IntKind.wrap .i64 (20 + (Int.tmod (if 0 > x4 then 0 else x4) 11))))) then 1099511627776 else (IntKind.wrap .i64 (u3.2.2.1 + (IntKind.wrap .i64 (20 + (Int.tmod (if 0 > x4 then 0 else x4) 11))))))), (CV.int .i64 (IntKind.wrap .i64 (20 + (Int.tmod (if 0 > x4 then 0 else x4) 11)))), (CV.int .i64 4)])])))) * 64 ≤ 140737488355328)) <|
K (0, (u3.2.1 + (List.length (List.take 1 (List.drop 0 [(CV.agg [(CV.int .i64 x0), (CV.int .i64 x1), (CV.slc none (List.take (List.length u4) (List.drop 0 u4))), (CV.int .i64 (if 1099511627776 < (IntKind.wrap .i64 (u3.2.2.1 + (IntKind.wrap .i64 (20 + (Int.tmod (if 0 > x4 then 0 else x4) 11))))) then 1099511627776 else (IntKind.wrap .i64 (u3.2.2.1 + (IntKind.wrap .i64 (20 + (Int.tmod (if 0 > x4 then 0 else x4) 11))))))), (CV.int .i64 (IntKind.wrap .i64 (20 + (Int.tmod (if 0 > x4 then 0 else x4) 11)))), (CV.int .i64 4)])])))), u3.2.2.1, (List.take (0 + (u3.2.1 + (List.length (List.take 1 (List.drop 0 [(CV.agg [(CV.int .i64 x0), (CV.int .i64 x1), (CV.slc none (List.take (List.length u4) (List.drop 0 u4))), (CV.int .i64 (if 1099511627776 < (IntKind.wrap .i64 (u3.2.2.1 + (IntKind.wrap .i64 (20 + (Int.tmod (if 0 > x4 then 0 else x4) 11))))) then 1099511627776 else (IntKind.wrap .i64 (u3.2.2.1 + (IntKind.wrap .i64 (20 + (Int.tmod (if 0 > x4 then 0 else x4) 11))))))), (CV.int .i64 (IntKind.wrap .i64 (20 + (Int.tmod (if 0 > x4 then 0 else x4) 11)))), (CV.int .i64 4)])]))))) ((List.take u3.2.1 u3.2.2.2) ++ (List.take 1 (List.drop 0 [(CV.agg [(CV.int .i64 x0), (CV.int .i64 x1), (CV.slc none (List.take (List.length u4) (List.drop 0 u4))), (CV.int .i64 (if 1099511627776 < (IntKind.wrap .i64 (u3.2.2.1 + (IntKind.wrap .i64 (20 + (Int.tmod (if 0 > x4 then 0 else x4) 11))))) then 1099511627776 else (IntKind.wrap .i64 (u3.2.2.1 + (IntKind.wrap .i64 (20 + (Int.tmod (if 0 > x4 then 0 else x4) 11))))))), (CV.int .i64 (IntKind.wrap .i64 (20 + (Int.tmod (if 0 > x4 then 0 else x4) 11)))), (CV.int .i64 4)])])))))) (x2)))) (x0) (x1) (u1.1) (u1.2.1) (u1.2.2)) (x3) (x5) (x6) (x7)
/-- "(*outpost/exch.Table).Start" -/
def f10_A (R_f27 : f27_R) (R_f28 : f28_R) (R_f29 : f29_R) (k : Nat) : f10_R := fun X K x0 x1 x2 x3 x4 x5 x6 x7 => f10_T R_f27 R_f28 R_f29 k K  x0 x1 x2 x3 x4 x5 x6 x7
set_option maxRecDepth 100000 in
theorem f10_ev' {X : Type} (R_f27 : f27_R) (R_f28 : f28_R) (R_f29 : f29_R) (hR_f27 : AnsOk Try.prog 27 (f27_cOf R_f27)) (hR_f28 : AnsOk Try.prog 28 (f28_cOf R_f28)) (hR_f29 : AnsOk Try.prog 29 (f29_cOf R_f29)) (k : Nat) (K : Out → Option X) (x0 : Int) (x1 : Int) (x2 : List CV) (x3 : Int) (x4 : Int) (x5 : Nat) (x6 : Int) (x7 : List CV) : evFn (f10_cx R_f27 R_f28 R_f29 hR_f27 hR_f28 hR_f29) [] k Try.f10.ntmps Try.f10.results.toList (Try.f10.body.getD .skip) [(.ptr [1000] 0 0 0), (.v (CV.int .i64 x0)), (.v (CV.int .i64 x1)), (.sl false none x2), (.v (CV.int .i64 x3)), (.v (CV.int .i64 x4))] [([1000], (.obj [(.osl [0, 1000] (some 6) 0 x5), (.v (CV.int .i64 x6))])), ([0, 1000], (.row false (some 6) x7))] K = f10_T R_f27 R_f28 R_f29 k (fun u => K (f10_out u)) x0 x1 x2 x3 x4 x5 x6 x7 := by kernel_rfl
theorem f10_ev {X : Type} (R_f27 : f27_R) (R_f28 : f28_R) (R_f29 : f29_R) (hR_f27 : AnsOk Try.prog 27 (f27_cOf R_f27)) (hR_f28 : AnsOk Try.prog 28 (f28_cOf R_f28)) (hR_f29 : AnsOk Try.prog 29 (f29_cOf R_f29)) (k : Nat) (K : Out → Option X) (x0 : Int) (x1 : Int) (x2 : List CV) (x3 : Int) (x4 : Int) (x5 : Nat) (x6 : Int) (x7 : List CV) : evFn (f10_cx R_f27 R_f28 R_f29 hR_f27 hR_f28 hR_f29) [] k Try.f10.ntmps Try.f10.results.toList (Try.f10.body.getD .skip) [(.ptr [1000] 0 0 0), (.v (CV.int .i64 x0)), (.v (CV.int .i64 x1)), (.sl false none x2), (.v (CV.int .i64 x3)), (.v (CV.int .i64 x4))] [([1000], (.obj [(.osl [0, 1000] (some 6) 0 x5), (.v (CV.int .i64 x6))])), ([0, 1000], (.row false (some 6) x7))] K = f10_A R_f27 R_f28 R_f29 k X (fun u => K (f10_out u)) x0 x1 x2 x3 x4 x5 x6 x7 := (f10_ev' R_f27 R_f28 R_f29 hR_f27 hR_f28 hR_f29 k K x0 x1 x2 x3 x4 x5 x6 x7).trans rfl
theorem f10_okA (R_f27 : f27_R) (R_f28 : f28_R) (R_f29 : f29_R) (hR_f27 : AnsOk Try.prog 27 (f27_cOf R_f27)) (hR_f28 : AnsOk Try.prog 28 (f28_cOf R_f28)) (hR_f29 : AnsOk Try.prog 29 (f29_cOf R_f29)) (k : Nat) : AnsOk Try.prog 10 (f10_cOf (f10_A R_f27 R_f28 R_f29 k)) := by
  intro X xs ns K x h
  unfold f10_cOf at h ⊢
  split at h
  · exact ans_main S (f10_Cok R_f27 R_f28 R_f29 hR_f27 hR_f28 hR_f29) Try.func10 (ent_of Try.func10 (by kernel_rfl) rfl) rfl (fun X K => f10_ev R_f27 R_f28 R_f29 hR_f27 hR_f28 hR_f29 k K _ _ _ _ _ _ _ _) h
  · cases h
/-- "(*outpost/exch.Table).Start" -/
def f10 {X : Type} (k : Nat) (K : Int × Nat × Int × (List CV) → Option X) (x0 : Int) (x1 : Int) (x2 : List CV) (x3 : Int) (x4 : Int) (x5 : Nat) (x6 : Int) (x7 : List CV) : Option X := f10_A (fun X => @f27 X k) (fun X => @f28 X k) (fun X => @f29 X k) k X K x0 x1 x2 x3 x4 x5 x6 x7
theorem f10_ok (k : Nat) : AnsOk Try.prog 10 (f10_cOf (fun X => @f10 X k)) := f10_okA (fun X => @f27 X k) (fun X => @f28 X k) (fun X => @f29 X k) (f27_ok k) (f28_ok k) (f29_ok k) k
abbrev f49_R : Type 1 := (X : Type) → (Bool → Option X) → CV → Int → Int → Option X
def f49_out (u : Bool) : Out := ⟨(.v (CV.bool u)), []⟩
def f49_cOf (R : f49_R) : FnC := fun X xs ns K => match xs, ns with
  | [(.v x0), (.bptr none (CV.int .i64 x1) 0), (.bptr none (CV.int .i64 x2) 0)], [] => R X (fun u => K (f49_out u)) x0 x1 x2
  | _, _ => none
def f49_plan : Nat → Option (List Nat × List Wk)
  | 0 => some ([0, 1, 2], [])
  | 1 => some ([1, 2, 3], [])
  | _ => none
def f49_C : Fns := noC
theorem f49_Cok : CsOk Try.prog (f49_C) := noC_ok
def f49_cx : Cx := mkCx (tabOf rows) (f49_C) md (cmpIn cmps) f49_plan (f49_Cok)
def f49_T {X : Type} (k : Nat) (K : Bool → Option X)  (x0 : CV) (x1 : Int) (x2 : Int) : Option X :=
grd (CV.isA 4 x0) <|
grd (CV.isI .i64 (CV.cellD 0 x0)) <|
grd (CV.isI .i64 (CV.cellD 1 x0)) <|
grd (CV.isI .i64 (CV.cellD 2 x0)) <|
grd (CV.isL none (CV.cellD 3 x0)) <|
(bif ((CV.toI (CV.cellD 0 x0)) == x1) then
K (((CV.toI (CV.cellD 1 x0)) == x2))
else
K (false))
/-- "(*outpost/cache.Cache).index$1" -/
def f49_A (k : Nat) : f49_R := fun X K x0 x1 x2 => f49_T k K  x0 x1 x2
set_option maxRecDepth 100000 in
theorem f49_ev' {X : Type} (k : Nat) (K : Out → Option X) (x0 : CV) (x1 : Int) (x2 : Int) : evFn (f49_cx) [] k Try.f49.ntmps Try.f49.results.toList (Try.f49.body.getD .skip) [(.v x0), (.bptr none (CV.int .i64 x1) 0), (.bptr none (CV.int .i64 x2) 0)] [] K = f49_T k (fun u => K (f49_out u)) x0 x1 x2 := by kernel_rfl
theorem f49_ev {X : Type} (k : Nat) (K : Out → Option X) (x0 : CV) (x1 : Int) (x2 : Int) : evFn (f49_cx) [] k Try.f49.ntmps Try.f49.results.toList (Try.f49.body.getD .skip) [(.v x0), (.bptr none (CV.int .i64 x1) 0), (.bptr none (CV.int .i64 x2) 0)] [] K = f49_A k X (fun u => K (f49_out u)) x0 x1 x2 := (f49_ev' k K x0 x1 x2).trans rfl
theorem f49_okA (k : Nat) : AnsOk Try.prog 49 (f49_cOf (f49_A k)) := by
  intro X xs ns K x h
  unfold f49_cOf at h ⊢
  split at h
  · exact ans_main S (f49_Cok) Try.func49 (ent_of Try.func49 (by kernel_rfl) rfl) rfl (fun X K => f49_ev k K _ _ _) h
  · cases h
/-- "(*outpost/cache.Cache).index$1" -/
def f49 {X : Type} (k : Nat) (K : Bool → Option X) (x0 : CV) (x1 : Int) (x2 : Int) : Option X := f49_A k X K x0 x1 x2
theorem f49_ok (k : Nat) : AnsOk Try.prog 49 (f49_cOf (fun X => @f49 X k)) := f49_okA k
abbrev f48_R : Type 1 := (X : Type) → (Int → Option X) → (List CV) → Int → Int → Option X
def f48_out (u : Int) : Out := ⟨(.v (CV.int .i64 u)), []⟩
def f48_cOf (R : f48_R) : FnC := fun X xs ns K => match xs, ns with
  | [(.sl false (some 4) x0), (.fn 49 [(.bptr none (CV.int .i64 x1) 0), (.bptr none (CV.int .i64 x2) 0)])], [] => R X (fun u => K (f48_out u)) x0 x1 x2
  | _, _ => none
def f48_plan : Nat → Option (List Nat × List Wk)
  | 0 => some ([0, 1], [])
  | 1 => some ([0, 1], [])
  | 2 => some ([0, 1, 7, 8], [])
  | 3 => some ([0, 1, 7, 8], [])
  | 4 => some ([0, 1, 5, 7, 8], [])
  | 5 => some ([5], [])
  | 6 => some ([0, 1, 7, 8], [])
  | 7 => some ([], [])
  | _ => none
def f48_C (R_f49 : f49_R) : Fns := (orC 49 (f49_cOf R_f49) noC)
theorem f48_Cok (R_f49 : f49_R) (hR_f49 : AnsOk Try.prog 49 (f49_cOf R_f49)) : CsOk Try.prog (f48_C R_f49) := (orC_ok hR_f49 noC_ok)
def f48_cx (R_f49 : f49_R) (hR_f49 : AnsOk Try.prog 49 (f49_cOf R_f49)) : Cx := mkCx (tabOf rows) (f48_C R_f49) md (cmpIn cmps) f48_plan (f48_Cok R_f49 hR_f49)
def f48_S1 (v : (List CV) × Int × Int × Int × Int) : St := ⟨[(.sl false (some 4) v.1), (.fn 49 [(.bptr none (CV.int .i64 v.2.1) 0), (.bptr none (CV.int .i64 v.2.2.1) 0)]), .undef, .undef, .undef, .undef, .undef, (.v (CV.int .i64 v.2.2.2.1)), (.v (CV.int .i64 v.2.2.2.2)), .undef, .undef, .undef, .undef, .undef, .undef, .undef, .undef, .undef, .undef], []⟩
def f48_T1 {X : Type} (R_f49 : f49_R) (k : Nat) (K : Int → Option X)   (rec1 : (List CV) × Int × Int × Int × Int → Option X) (v4_0 : (List CV) × Int × Int × Int × Int) : Option X :=
(bif (decide (v4_0.2.2.2.2 < v4_0.2.2.2.1)) then
grd (decide (0 ≤ v4_0.2.2.2.2)) <|
Option.bind (v4_0.1)[(Int.toNat v4_0.2.2.2.2)]? fun e8 =>
R_f49 _ (fun u9 =>
(bif u9 then
K (v4_0.2.2.2.2)
else
rec1 (v4_0.1, v4_0.2.1, v4_0.2.2.1, v4_0.2.2.2.1, (IntKind.wrap .i64 (v4_0.2.2.2.2 + 1))))) (e8) (v4_0.2.1) (v4_0.2.2.1)
else
K ((-1)))
def f48_L1 {X : Type} (R_f49 : f49_R) (k : Nat) (K : Int → Option X)  (rec1 : (List CV) × Int × Int × Int × Int → Option X) (v : (List CV) × Int × Int × Int × Int) : Option X := f48_T1 R_f49 k K   rec1 v
set_option maxRecDepth 100000 in
theorem f48_L1_ev {X : Type} (R_f49 : f49_R) (hR_f49 : AnsOk Try.prog 49 (f49_cOf R_f49)) (k : Nat) (K : Out → Option X)  (r1 : St → Option X) (v : (List CV) × Int × Int × Int × Int) : loopB (f48_cx R_f49 hR_f49) k [.r, .l, .r, .b] (Try.f48.body.getD .skip) (retK (f48_cx R_f49 hR_f49) [] Try.f48.results.toList K) [] r1 (f48_S1 v) = f48_T1 R_f49 k (fun u => K (f48_out u))   (fun v => r1 (f48_S1 v)) v := by kernel_rfl
theorem f48_L1_it {X : Type} (R_f49 : f49_R) (hR_f49 : AnsOk Try.prog 49 (f49_cOf R_f49)) (k : Nat) (K : Out → Option X)  : (fun v => iter (loopB (f48_cx R_f49 hR_f49) k [.r, .l, .r, .b] (Try.f48.body.getD .skip) (retK (f48_cx R_f49 hR_f49) [] Try.f48.results.toList K) []) k (f48_S1 v)) = iterV (f48_L1 R_f49 k (fun u => K (f48_out u)) ) k :=
  iter_map (fun r1 v => (f48_L1_ev R_f49 hR_f49 k K  r1 v).trans rfl) k
def f48_T {X : Type} (R_f49 : f49_R) (k : Nat) (K : Int → Option X) (loop1 : (List CV) × Int × Int × Int × Int → Option X) (x0 : List CV) (x1 : Int) (x2 : Int) : Option X :=
loop1 (x0, x1, x2, (Nat.cast ((List.length x0)) : Int), 0)
/-- "slices.IndexFunc[[]outpost/cache.kept,outpost/cache.kept]" -/
def f48_A (R_f49 : f49_R) (k : Nat) : f48_R := fun X K x0 x1 x2 => f48_T R_f49 k K (iterV (f48_L1 R_f49 k K) k) x0 x1 x2
set_option maxRecDepth 100000 in
theorem f48_ev' {X : Type} (R_f49 : f49_R) (hR_f49 : AnsOk Try.prog 49 (f49_cOf R_f49)) (k : Nat) (K : Out → Option X) (x0 : List CV) (x1 : Int) (x2 : Int) : evFn (f48_cx R_f49 hR_f49) [] k Try.f48.ntmps Try.f48.results.toList (Try.f48.body.getD .skip) [(.sl false (some 4) x0), (.fn 49 [(.bptr none (CV.int .i64 x1) 0), (.bptr none (CV.int .i64 x2) 0)])] [] K = f48_T R_f49 k (fun u => K (f48_out u)) (fun v => iter (loopB (f48_cx R_f49 hR_f49) k [.r, .l, .r, .b] (Try.f48.body.getD .skip) (retK (f48_cx R_f49 hR_f49) [] Try.f48.results.toList K) []) k (f48_S1 v)) x0 x1 x2 := by kernel_rfl
theorem f48_ev {X : Type} (R_f49 : f49_R) (hR_f49 : AnsOk Try.prog 49 (f49_cOf R_f49)) (k : Nat) (K : Out → Option X) (x0 : List CV) (x1 : Int) (x2 : Int) : evFn (f48_cx R_f49 hR_f49) [] k Try.f48.ntmps Try.f48.results.toList (Try.f48.body.getD .skip) [(.sl false (some 4) x0), (.fn 49 [(.bptr none (CV.int .i64 x1) 0), (.bptr none (CV.int .i64 x2) 0)])] [] K = f48_A R_f49 k X (fun u => K (f48_out u)) x0 x1 x2 := (f48_ev' R_f49 hR_f49 k K x0 x1 x2).trans (by rw [f48_L1_it R_f49 hR_f49 k K]; rfl)
theorem f48_okA (R_f49 : f49_R) (hR_f49 : AnsOk Try.prog 49 (f49_cOf R_f49)) (k : Nat) : AnsOk Try.prog 48 (f48_cOf (f48_A R_f49 k)) := by
  intro X xs ns K x h
  unfold f48_cOf at h ⊢
  split at h
  · exact ans_main S (f48_Cok R_f49 hR_f49) Try.func48 (ent_of Try.func48 (by kernel_rfl) rfl) rfl (fun X K => f48_ev R_f49 hR_f49 k K _ _ _) h
  · cases h
/-- "slices.IndexFunc[[]outpost/cache.kept,outpost/cache.kept]" -/
def f48 {X : Type} (k : Nat) (K : Int → Option X) (x0 : List CV) (x1 : Int) (x2 : Int) : Option X := f48_A (fun X => @f49 X k) k X K x0 x1 x2
theorem f48_ok (k : Nat) : AnsOk Try.prog 48 (f48_cOf (fun X => @f48 X k)) := f48_okA (fun X => @f49 X k) (f49_ok k) k
abbrev f35_R : Type 1 := (X : Type) → (Int × Nat × (List CV) → Option X) → Int → Int → Nat → (List CV) → Option X
def f35_out (u : Int × Nat × (List CV)) : Out := ⟨(.v (CV.int .i64 u.1)), [([1000], (.obj [(.osl [0, 1000] (some 4) 0 u.2.1)])), ([0, 1000], (.row false (some 4) u.2.2))]⟩
def f35_cOf (R : f35_R) : FnC := fun X xs ns K => match xs, ns with
  | [(.ptr [1000] 0 0 0), (.v (CV.int .i64 x0)), (.v (CV.int .i64 x1))], [([1000], (.obj [(.osl [0, 1000] (some 4) 0 x2)])), ([0, 1000], (.row false (some 4) x3))] => R X (fun u => K (f35_out u)) x0 x1 x2 x3
  | _, _ => none
def f35_plan : Nat → Option (List Nat × List Wk)
  | 0 => some ([0, 1, 2], [])
  | 1 => some ([0, 4, 5], [])
  | _ => none
def f35_C (R_f48 : f48_R) : Fns := (orC 48 (f48_cOf R_f48) noC)
theorem f35_Cok (R_f48 : f48_R) (hR_f48 : AnsOk Try.prog 48 (f48_cOf R_f48)) : CsOk Try.prog (f35_C R_f48) := (orC_ok hR_f48 noC_ok)
def f35_cx (R_f48 : f48_R) (hR_f48 : AnsOk Try.prog 48 (f48_cOf R_f48)) : Cx := mkCx (tabOf rows) (f35_C R_f48) md (cmpIn cmps) f35_plan (f35_Cok R_f48 hR_f48)
def f35_T {X : Type} (R_f48 : f48_R) (k : Nat) (K : Int × Nat × (List CV) → Option X)  (x0 : Int) (x1 : Int) (x2 : Nat) (x3 : List CV) : Option X :=
R_f48 _ (fun u1 =>
K (u1, x2, (List.take (0 + x2) x3))) ((List.take x2 (List.drop 0 x3))) (x0) (x1)
/-- "(*outpost/cache.Cache).index" -/
def f35_A (R_f48 : f48_R) (k : Nat) : f35_R := fun X K x0 x1 x2 x3 => f35_T R_f48 k K  x0 x1 x2 x3
set_option maxRecDepth 100000 in
theorem f35_ev' {X : Type} (R_f48 : f48_R) (hR_f48 : AnsOk Try.prog 48 (f48_cOf R_f48)) (k : Nat) (K : Out → Option X) (x0 : Int) (x1 : Int) (x2 : Nat) (x3 : List CV) : evFn (f35_cx R_f48 hR_f48) [] k Try.f35.ntmps Try.f35.results.toList (Try.f35.body.getD .skip) [(.ptr [1000] 0 0 0), (.v (CV.int .i64 x0)), (.v (CV.int .i64 x1))] [([1000], (.obj [(.osl [0, 1000] (some 4) 0 x2)])), ([0, 1000], (.row false (some 4) x3))] K = f35_T R_f48 k (fun u => K (f35_out u)) x0 x1 x2 x3 := by kernel_rfl
theorem f35_ev {X : Type} (R_f48 : f48_R) (hR_f48 : AnsOk Try.prog 48 (f48_cOf R_f48)) (k : Nat) (K : Out → Option X) (x0 : Int) (x1 : Int) (x2 : Nat) (x3 : List CV) : evFn (f35_cx R_f48 hR_f48) [] k Try.f35.ntmps Try.f35.results.toList (Try.f35.body.getD .skip) [(.ptr [1000] 0 0 0), (.v (CV.int .i64 x0)), (.v (CV.int .i64 x1))] [([1000], (.obj [(.osl [0, 1000] (some 4) 0 x2)])), ([0, 1000], (.row false (some 4) x3))] K = f35_A R_f48 k X (fun u => K (f35_out u)) x0 x1 x2 x3 := (f35_ev' R_f48 hR_f48 k K x0 x1 x2 x3).trans rfl
theorem f35_okA (R_f48 : f48_R) (hR_f48 : AnsOk Try.prog 48 (f48_cOf R_f48)) (k : Nat) : AnsOk Try.prog 35 (f35_cOf (f35_A R_f48 k)) := by
  intro X xs ns K x h
  unfold f35_cOf at h ⊢
  split at h
  · exact ans_main S (f35_Cok R_f48 hR_f48) Try.func35 (ent_of Try.func35 (by kernel_rfl) rfl) rfl (fun X K => f35_ev R_f48 hR_f48 k K _ _ _ _) h
  · cases h
/-- "(*outpost/cache.Cache).index" -/
def f35 {X : Type} (k : Nat) (K : Int × Nat × (List CV) → Option X) (x0 : Int) (x1 : Int) (x2 : Nat) (x3 : List CV) : Option X := f35_A (fun X => @f48 X k) k X K x0 x1 x2 x3
theorem f35_ok (k : Nat) : AnsOk Try.prog 35 (f35_cOf (fun X => @f35 X k)) := f35_okA (fun X => @f48 X k) (f48_ok k) k
abbrev f15_R : Type 1 := (X : Type) → (Nat × Bool × Nat × (List CV) × (List CV) → Option X) → Int → Int → Int → Nat → (List CV) → Option X
def f15_out (u : Nat × Bool × Nat × (List CV) × (List CV)) : Out := ⟨(.tup [(.osl [0, 2000] none 0 u.1), (.v (CV.bool u.2.1))]), [([1000], (.obj [(.osl [0, 1000] (some 4) 0 u.2.2.1)])), ([0, 1000], (.row false (some 4) u.2.2.2.1)), ([0, 2000], (.row false none u.2.2.2.2))]⟩
def f15_cOf (R : f15_R) : FnC := fun X xs ns K => match xs, ns with
  | [(.ptr [1000] 0 0 0), (.v (CV.int .i64 x0)), (.v (CV.int .i64 x1)), (.v (CV.int .i64 x2))], [([1000], (.obj [(.osl [0, 1000] (some 4) 0 x3)])), ([0, 1000], (.row false (some 4) x4))] => R X (fun u => K (f15_out u)) x0 x1 x2 x3 x4
  | _, _ => none
def f15_plan : Nat → Option (List Nat × List Wk)
  | 0 => some ([0, 1, 2, 3], [])
  | 1 => some ([0, 1, 2, 3], [])
  | 2 => some ([0, 3, 10], [])
  | 3 => some ([], [])
  | 4 => some ([0, 10], [])
  | _ => none
def f15_C (R_f35 : f35_R) (R_f36 : f36_R) (R_f29 : f29_R) : Fns := (orC 29 (f29_cOf R_f29) (orC 35 (f35_cOf R_f35) (orC 36 (f36_cOf R_f36) noC)))
theorem f15_Cok (R_f35 : f35_R) (R_f36 : f36_R) (R_f29 : f29_R) (hR_f35 : AnsOk Try.prog 35 (f35_cOf R_f35)) (hR_f36 : AnsOk Try.prog 36 (f36_cOf R_f36)) (hR_f29 : AnsOk Try.prog 29 (f29_cOf R_f29)) : CsOk Try.prog (f15_C R_f35 R_f36 R_f29) := (orC_ok hR_f29 (orC_ok hR_f35 (orC_ok hR_f36 noC_ok)))
def f15_cx (R_f35 : f35_R) (R_f36 : f36_R) (R_f29 : f29_R) (hR_f35 : AnsOk Try.prog 35 (f35_cOf R_f35)) (hR_f36 : AnsOk Try.prog 36 (f36_cOf R_f36)) (hR_f29 : AnsOk Try.prog 29 (f29_cOf R_f29)) : Cx := mkCx (tabOf rows) (f15_C R_f35 R_f36 R_f29) md (cmpIn cmps) f15_plan (f15_Cok R_f35 R_f36 R_f29 hR_f35 hR_f36 hR_f29)
def f15_T {X : Type} (R_f35 : f35_R) (R_f36 : f36_R) (R_f29 : f29_R) (k : Nat) (K : Nat × Bool × Nat × (List CV) × (List CV) → Option X)  (x0 : Int) (x1 : Int) (x2 : Int) (x3 : Nat) (x4 : List CV) : Option X :=
R_f35 _ (fun u1 =>
(bif (decide (u1.1 < 0)) then
K (0, false, u1.2.1, (List.take (0 + u1.2.1) u1.2.2), (List.take 0 []))
else
grd (decide (0 ≤ u1.1)) <|
grd (decide (u1.1 < (Nat.cast (u1.2.1) : Int))) <|
Option.bind (u1.2.2)[(0 + (Int.toNat u1.1))]? fun e4 =>
R_f36 _ (fun u5 =>
(bif (!u5) then
K (0, false, u1.2.1, (List.take (0 + u1.2.1) u1.2.2), (List.take 0 []))
else
grd (decide (0 ≤ u1.1)) <|
grd (decide (u1.1 < (Nat.cast (u1.2.1) : Int))) <|
Option.bind (u1.2.2)[(0 + (Int.toNat u1.1))]? fun e6 =>
Option.bind (CV.cell e6 3) fun c7 =>
grd (CV.isL none c7) <|
R_f29 _ (fun u8 =>
K ((List.length u8), true, u1.2.1, (List.take (0 + u1.2.1) u1.2.2), (List.take (0 + (List.length u8)) u8))) ((CV.toL c7)))) (e4) (x2))) (x0) (x1) (x3) (x4)
/-- "(*outpost/cache.Cache).Find" -/
def f15_A (R_f35 : f35_R) (R_f36 : f36_R) (R_f29 : f29_R) (k : Nat) : f15_R := fun X K x0 x1 x2 x3 x4 => f15_T R_f35 R_f36 R_f29 k K  x0 x1 x2 x3 x4
set_option maxRecDepth 100000 in
theorem f15_ev' {X : Type} (R_f35 : f35_R) (R_f36 : f36_R) (R_f29 : f29_R) (hR_f35 : AnsOk Try.prog 35 (f35_cOf R_f35)) (hR_f36 : AnsOk Try.prog 36 (f36_cOf R_f36)) (hR_f29 : AnsOk Try.prog 29 (f29_cOf R_f29)) (k : Nat) (K : Out → Option X) (x0 : Int) (x1 : Int) (x2 : Int) (x3 : Nat) (x4 : List CV) : evFn (f15_cx R_f35 R_f36 R_f29 hR_f35 hR_f36 hR_f29) [⟨0, [0], some [0, 2000]⟩] k Try.f15.ntmps Try.f15.results.toList (Try.f15.body.getD .skip) [(.ptr [1000] 0 0 0), (.v (CV.int .i64 x0)), (.v (CV.int .i64 x1)), (.v (CV.int .i64 x2))] [([1000], (.obj [(.osl [0, 1000] (some 4) 0 x3)])), ([0, 1000], (.row false (some 4) x4))] K = f15_T R_f35 R_f36 R_f29 k (fun u => K (f15_out u)) x0 x1 x2 x3 x4 := by kernel_rfl
theorem f15_ev {X : Type} (R_f35 : f35_R) (R_f36 : f36_R) (R_f29 : f29_R) (hR_f35 : AnsOk Try.prog 35 (f35_cOf R_f35)) (hR_f36 : AnsOk Try.prog 36 (f36_cOf R_f36)) (hR_f29 : AnsOk Try.prog 29 (f29_cOf R_f29)) (k : Nat) (K : Out → Option X) (x0 : Int) (x1 : Int) (x2 : Int) (x3 : Nat) (x4 : List CV) : evFn (f15_cx R_f35 R_f36 R_f29 hR_f35 hR_f36 hR_f29) [⟨0, [0], some [0, 2000]⟩] k Try.f15.ntmps Try.f15.results.toList (Try.f15.body.getD .skip) [(.ptr [1000] 0 0 0), (.v (CV.int .i64 x0)), (.v (CV.int .i64 x1)), (.v (CV.int .i64 x2))] [([1000], (.obj [(.osl [0, 1000] (some 4) 0 x3)])), ([0, 1000], (.row false (some 4) x4))] K = f15_A R_f35 R_f36 R_f29 k X (fun u => K (f15_out u)) x0 x1 x2 x3 x4 := (f15_ev' R_f35 R_f36 R_f29 hR_f35 hR_f36 hR_f29 k K x0 x1 x2 x3 x4).trans rfl
theorem f15_okA (R_f35 : f35_R) (R_f36 : f36_R) (R_f29 : f29_R) (hR_f35 : AnsOk Try.prog 35 (f35_cOf R_f35)) (hR_f36 : AnsOk Try.prog 36 (f36_cOf R_f36)) (hR_f29 : AnsOk Try.prog 29 (f29_cOf R_f29)) (k : Nat) : AnsOk Try.prog 15 (f15_cOf (f15_A R_f35 R_f36 R_f29 k)) := by
  intro X xs ns K x h
  unfold f15_cOf at h ⊢
  split at h
  · exact ans_main S (f15_Cok R_f35 R_f36 R_f29 hR_f35 hR_f36 hR_f29) Try.func15 (ent_of Try.func15 (by kernel_rfl) rfl) rfl (fun X K => f15_ev R_f35 R_f36 R_f29 hR_f35 hR_f36 hR_f29 k K _ _ _ _ _) h
  · cases h
/-- "(*outpost/cache.Cache).Find" -/
def f15 {X : Type} (k : Nat) (K : Nat × Bool × Nat × (List CV) × (List CV) → Option X) (x0 : Int) (x1 : Int) (x2 : Int) (x3 : Nat) (x4 : List CV) : Option X := f15_A (fun X => @f35 X k) (fun X => @f36 X k) (fun X => @f29 X k) k X K x0 x1 x2 x3 x4
theorem f15_ok (k : Nat) : AnsOk Try.prog 15 (f15_cOf (fun X => @f15 X k)) := f15_okA (fun X => @f35 X k) (fun X => @f36 X k) (fun X => @f29 X k) (f35_ok k) (f36_ok k) (f29_ok k) k
abbrev f37_R : Type 1 := (X : Type) → (Nat × (List CV) → Option X) → (List CV) → Option X
def f37_out (u : Nat × (List CV)) : Out := ⟨(.osl [2000] (some 2) 0 u.1), [([2000], (.row false (some 2) u.2))]⟩
def f37_cOf (R : f37_R) : FnC := fun X xs ns K => match xs, ns with
  | [(.sl true (some 2) x0)], [] => R X (fun u => K (f37_out u)) x0
  | _, _ => none
def f37_plan : Nat → Option (List Nat × List Wk)
  | 0 => some ([0], [])
  | 1 => some ([0], [])
  | 2 => some ([0, 3], [])
  | 3 => some ([3, 6, 7, 8], [⟨3, [], some [3]⟩])
  | 4 => some ([3, 6, 7, 8], [])
  | 5 => some ([3, 5, 6, 7, 8], [])
  | 6 => some ([3, 6, 7, 8], [])
  | 7 => some ([3], [])
  | _ => none
def f37_C (R_f29 : f29_R) : Fns := (orC 29 (f29_cOf R_f29) noC)
theorem f37_Cok (R_f29 : f29_R) (hR_f29 : AnsOk Try.prog 29 (f29_cOf R_f29)) : CsOk Try.prog (f37_C R_f29) := (orC_ok hR_f29 noC_ok)
def f37_cx (R_f29 : f29_R) (hR_f29 : AnsOk Try.prog 29 (f29_cOf R_f29)) : Cx := mkCx (tabOf rows) (f37_C R_f29) md (cmpIn cmps) f37_plan (f37_Cok R_f29 hR_f29)
def f37_S1 (v : Nat × (List CV) × Int × Int × (List CV)) : St := ⟨[.undef, .undef, .undef, (.osl [3] (some 2) 0 v.1), .undef, .undef, (.sl true (some 2) v.2.1), (.v (CV.int .i64 v.2.2.1)), (.v (CV.int .i64 v.2.2.2.1)), .undef, .undef, .undef, .undef, .undef, .undef, .undef, .undef, .undef, .undef, .undef, .undef, .undef, .undef], [([3], (.row false (some 2) v.2.2.2.2))]⟩
def f37_T1 {X : Type} (R_f29 : f29_R) (k : Nat) (K : Nat × (List CV) → Option X)   (rec1 : Nat × (List CV) × Int × Int × (List CV) → Option X) (v5_0 : Nat × (List CV) × Int × Int × (List CV)) : Option X :=
(bif (decide (v5_0.2.2.2.1 < v5_0.2.2.1)) then
grd (decide (0 ≤ v5_0.2.2.2.1)) <|
Option.bind (v5_0.2.1)[(Int.toNat v5_0.2.2.2.1)]? fun e8 =>
grd (CV.isA 2 e8) <|
grd (CV.isI .i64 (CV.cellD 0 e8)) <|
grd (CV.isL none (CV.cellD 1 e8)) <|
R_f29 _ (fun u9 =>
grd (decide ((v5_0.1 + (List.length (List.take 1 (List.drop 0 [(CV.agg [(CV.int .i64 (CV.toI (CV.cellD 0 e8))), (CV.slc none (List.take (List.length u9) (List.drop 0 u9)))])])))) * 32 ≤ 140737488355328)) <|
rec1 ((v5_0.1 + (List.length (List.take 1 (List.drop 0 [(CV.agg [(CV.int .i64 (CV.toI (CV.cellD 0 e8))), (CV.slc none (List.take (List.length u9) (List.drop 0 u9)))])])))), v5_0.2.1, v5_0.2.2.1, (IntKind.wrap .i64 (v5_0.2.2.2.1 + 1)), ((List.take v5_0.1 v5_0.2.2.2.2) ++ (List.take 1 (List.drop 0 [(CV.agg [(CV.int .i64 (CV.toI (CV.cellD 0 e8))), (CV.slc none (List.take (List.length u9) (List.drop 0 u9)))])]))))) ((CV.toL (CV.cellD 1 e8)))
else
K (v5_0.1, (List.take (0 + v5_0.1) v5_0.2.2.2.2)))
def f37_L1 {X : Type} (R_f29 : f29_R) (k : Nat) (K : Nat × (List CV) → Option X)  (rec1 : Nat × (List CV) × Int × Int × (List CV) → Option X) (v : Nat × (List CV) × Int × Int × (List CV)) : Option X := f37_T1 R_f29 k K   rec1 v
set_option maxRecDepth 100000 in
theorem f37_L1_ev {X : Type} (R_f29 : f29_R) (hR_f29 : AnsOk Try.prog 29 (f29_cOf R_f29)) (k : Nat) (K : Out → Option X)  (r1 : St → Option X) (v : Nat × (List CV) × Int × Int × (List CV)) : loopB (f37_cx R_f29 hR_f29) k [.r, .r, .l, .r, .b] (Try.f37.body.getD .skip) (retK (f37_cx R_f29 hR_f29) [] Try.f37.results.toList K) [] r1 (f37_S1 v) = f37_T1 R_f29 k (fun u => K (f37_out u))   (fun v => r1 (f37_S1 v)) v := by kernel_rfl
theorem f37_L1_it {X : Type} (R_f29 : f29_R) (hR_f29 : AnsOk Try.prog 29 (f29_cOf R_f29)) (k : Nat) (K : Out → Option X)  : (fun v => iter (loopB (f37_cx R_f29 hR_f29) k [.r, .r, .l, .r, .b] (Try.f37.body.getD .skip) (retK (f37_cx R_f29 hR_f29) [] Try.f37.results.toList K) []) k (f37_S1 v)) = iterV (f37_L1 R_f29 k (fun u => K (f37_out u)) ) k :=
  iter_map (fun r1 v => (f37_L1_ev R_f29 hR_f29 k K  r1 v).trans rfl) k
def f37_T {X : Type} (R_f29 : f29_R) (k : Nat) (K : Nat × (List CV) → Option X) (loop1 : Nat × (List CV) × Int × Int × (List CV) → Option X) (x0 : List CV) : Option X :=
loop1 (0, x0, (Nat.cast ((List.length x0)) : Int), 0, [])
/-- "outpost/msg.options" -/
def f37_A (R_f29 : f29_R) (k : Nat) : f37_R := fun X K x0 => f37_T R_f29 k K (iterV (f37_L1 R_f29 k K) k) x0
set_option maxRecDepth 100000 in
theorem f37_ev' {X : Type} (R_f29 : f29_R) (hR_f29 : AnsOk Try.prog 29 (f29_cOf R_f29)) (k : Nat) (K : Out → Option X) (x0 : List CV) : evFn (f37_cx R_f29 hR_f29) [] k Try.f37.ntmps Try.f37.results.toList (Try.f37.body.getD .skip) [(.sl true (some 2) x0)] [] K = f37_T R_f29 k (fun u => K (f37_out u)) (fun v => iter (loopB (f37_cx R_f29 hR_f29) k [.r, .r, .l, .r, .b] (Try.f37.body.getD .skip) (retK (f37_cx R_f29 hR_f29) [] Try.f37.results.toList K) []) k (f37_S1 v)) x0 := by kernel_rfl
theorem f37_ev {X : Type} (R_f29 : f29_R) (hR_f29 : AnsOk Try.prog 29 (f29_cOf R_f29)) (k : Nat) (K : Out → Option X) (x0 : List CV) : evFn (f37_cx R_f29 hR_f29) [] k Try.f37.ntmps Try.f37.results.toList (Try.f37.body.getD .skip) [(.sl true (some 2) x0)] [] K = f37_A R_f29 k X (fun u => K (f37_out u)) x0 := (f37_ev' R_f29 hR_f29 k K x0).trans (by rw [f37_L1_it R_f29 hR_f29 k K]; rfl)
theorem f37_okA (R_f29 : f29_R) (hR_f29 : AnsOk Try.prog 29 (f29_cOf R_f29)) (k : Nat) : AnsOk Try.prog 37 (f37_cOf (f37_A R_f29 k)) := by
  intro X xs ns K x h
  unfold f37_cOf at h ⊢
  split at h
  · exact ans_main S (f37_Cok R_f29 hR_f29) Try.func37 (ent_of Try.func37 (by kernel_rfl) rfl) rfl (fun X K => f37_ev R_f29 hR_f29 k K _) h
  · cases h
/-- "outpost/msg.options" -/
def f37 {X : Type} (k : Nat) (K : Nat × (List CV) → Option X) (x0 : List CV) : Option X := f37_A (fun X => @f29 X k) k X K x0
theorem f37_ok (k : Nat) : AnsOk Try.prog 37 (f37_cOf (fun X => @f37 X k)) := f37_okA (fun X => @f29 X k) (f29_ok k) k
abbrev f16_R : Type 1 := (X : Type) → (Int × Int × Int × Nat × Nat × Nat × (List CV) × (List CV) × (List CV) → Option X) → CV → Int → Int → (List CV) → (List CV) → Option X
def f16_out (u : Int × Int × Int × Nat × Nat × Nat × (List CV) × (List CV) × (List CV)) : Out := ⟨(.agg [(.v (CV.int .i64 u.1)), (.v (CV.int .i64 u.2.1)), (.v (CV.int .i64 u.2.2.1)), (.osl [3, 2000] none 0 u.2.2.2.1), (.osl [4, 2000] (some 2) 0 u.2.2.2.2.1), (.osl [5, 2000] none 0 u.2.2.2.2.2.1)]), [([3, 2000], (.row false none u.2.2.2.2.2.2.1)), ([4, 2000], (.row false (some 2) u.2.2.2.2.2.2.2.1)), ([5, 2000], (.row false none u.2.2.2.2.2.2.2.2))]⟩
def f16_cOf (R : f16_R) : FnC := fun X xs ns K => match xs, ns with
  | [(.v x0), (.v (CV.int .i64 x1)), (.v (CV.int .i64 x2)), (.sl true (some 2) x3), (.sl true none x4)], [] => R X (fun u => K (f16_out u)) x0 x1 x2 x3 x4
  | _, _ => none
def f16_plan : Nat → Option (List Nat × List Wk)
  | 0 => some ([0, 1, 2, 3, 4], [])
  | 1 => some ([1, 2, 3, 4, 5, 10], [])
  | 2 => some ([5, 10, 11], [])
  | 3 => some ([5, 10, 11], [])
  | 4 => some ([10, 11], [])
  | _ => none
def f16_C (R_f29 : f29_R) (R_f37 : f37_R) : Fns := (orC 29 (f29_cOf R_f29) (orC 37 (f37_cOf R_f37) noC))
theorem f16_Cok (R_f29 : f29_R) (R_f37 : f37_R) (hR_f29 : AnsOk Try.prog 29 (f29_cOf R_f29)) (hR_f37 : AnsOk Try.prog 37 (f37_cOf R_f37)) : CsOk Try.prog (f16_C R_f29 R_f37) := (orC_ok hR_f29 (orC_ok hR_f37 noC_ok))
def f16_cx (R_f29 : f29_R) (R_f37 : f37_R) (hR_f29 : AnsOk Try.prog 29 (f29_cOf R_f29)) (hR_f37 : AnsOk Try.prog 37 (f37_cOf R_f37)) : Cx := mkCx (tabOf rows) (f16_C R_f29 R_f37) md (cmpIn cmps) f16_plan (f16_Cok R_f29 R_f37 hR_f29 hR_f37)
def f16_J1 {X : Type} (R_f29 : f29_R) (R_f37 : f37_R) (k : Nat) (K : Int × Int × Int × Nat × Nat × Nat × (List CV) × (List CV) × (List CV) → Option X) (u1 : (List CV)) (u2 : Nat × (List CV)) (u3 : (List CV)) (x1 : Int) (v4 : Int × Int) : Option X :=
K (v4.1, x1, v4.2, (List.length u1), u2.1, (List.length u3), (List.take (0 + (List.length u1)) u1), (List.take (0 + u2.1) u2.2), (List.take (0 + (List.length u3)) u3))
def f16_T {X : Type} (R_f29 : f29_R) (R_f37 : f37_R) (k : Nat) (K : Int × Int × Int × Nat × Nat × Nat × (List CV) × (List CV) × (List CV) → Option X)  (x0 : CV) (x1 : Int) (x2 : Int) (x3 : List CV) (x4 : List CV) : Option X :=
grd (CV.isA 6 x0) <|
grd (CV.isI .i64 (CV.cellD 0 x0)) <|
grd (CV.isI .i64 (CV.cellD 1 x0)) <|
grd (CV.isI .i64 (CV.cellD 2 x0)) <|
grd (CV.isL none (CV.cellD 3 x0)) <|
grd (CV.isL (some 2) (CV.cellD 4 x0)) <|
grd (CV.isL none (CV.cellD 5 x0)) <|
R_f29 _ (fun u1 =>
R_f37 _ (fun u2 =>
R_f29 _ (fun u3 =>
(bif ((CV.toI (CV.cellD 0 x0)) == 0) then
f16_J1 R_f29 R_f37 k K u1 u2 u3 x1 (2, (CV.toI (CV.cellD 2 x0)))
else
f16_J1 R_f29 R_f37 k K u1 u2 u3 x1 (1, x2))) (x4)) (x3)) ((CV.toL (CV.cellD 3 x0)))
/-- "outpost/msg.Reply" -/
def f16_A (R_f29 : f29_R) (R_f37 : f37_R) (k : Nat) : f16_R := fun X K x0 x1 x2 x3 x4 => f16_T R_f29 R_f37 k K  x0 x1 x2 x3 x4
set_option maxRecDepth 100000 in
theorem f16_ev' {X : Type} (R_f29 : f29_R) (R_f37 : f37_R) (hR_f29 : AnsOk Try.prog 29 (f29_cOf R_f29)) (hR_f37 : AnsOk Try.prog 37 (f37_cOf R_f37)) (k : Nat) (K : Out → Option X) (x0 : CV) (x1 : Int) (x2 : Int) (x3 : List CV) (x4 : List CV) : evFn (f16_cx R_f29 R_f37 hR_f29 hR_f37) [] k Try.f16.ntmps Try.f16.results.toList (Try.f16.body.getD .skip) [(.v x0), (.v (CV.int .i64 x1)), (.v (CV.int .i64 x2)), (.sl true (some 2) x3), (.sl true none x4)] [] K = f16_T R_f29 R_f37 k (fun u => K (f16_out u)) x0 x1 x2 x3 x4 := by kernel_rfl
theorem f16_ev {X : Type} (R_f29 : f29_R) (R_f37 : f37_R) (hR_f29 : AnsOk Try.prog 29 (f29_cOf R_f29)) (hR_f37 : AnsOk Try.prog 37 (f37_cOf R_f37)) (k : Nat) (K : Out → Option X) (x0 : CV) (x1 : Int) (x2 : Int) (x3 : List CV) (x4 : List CV) : evFn (f16_cx R_f29 R_f37 hR_f29 hR_f37) [] k Try.f16.ntmps Try.f16.results.toList (Try.f16.body.getD .skip) [(.v x0), (.v (CV.int .i64 x1)), (.v (CV.int .i64 x2)), (.sl true (some 2) x3), (.sl true none x4)] [] K = f16_A R_f29 R_f37 k X (fun u => K (f16_out u)) x0 x1 x2 x3 x4 := (f16_ev' R_f29 R_f37 hR_f29 hR_f37 k K x0 x1 x2 x3 x4).trans rfl
theorem f16_okA (R_f29 : f29_R) (R_f37 : f37_R) (hR_f29 : AnsOk Try.prog 29 (f29_cOf R_f29)) (hR_f37 : AnsOk Try.prog 37 (f37_cOf R_f37)) (k : Nat) : AnsOk Try.prog 16 (f16_cOf (f16_A R_f29 R_f37 k)) := by
  intro X xs ns K x h
  unfold f16_cOf at h ⊢
  split at h
  · exact ans_main S (f16_Cok R_f29 R_f37 hR_f29 hR_f37) Try.func16 (ent_of Try.func16 (by kernel_rfl) rfl) rfl (fun X K => f16_ev R_f29 R_f37 hR_f29 hR_f37 k K _ _ _ _ _) h
  · cases h
/-- "outpost/msg.Reply" -/
def f16 {X : Type} (k : Nat) (K : Int × Int × Int × Nat × Nat × Nat × (List CV) × (List CV) × (List CV) → Option X) (x0 : CV) (x1 : Int) (x2 : Int) (x3 : List CV) (x4 : List CV) : Option X := f16_A (fun X => @f29 X k) (fun X => @f37 X k) k X K x0 x1 x2 x3 x4
theorem f16_ok (k : Nat) : AnsOk Try.prog 16 (f16_cOf (fun X => @f16 X k)) := f16_okA (fun X => @f29 X k) (fun X => @f37 X k) (f29_ok k) (f37_ok k) k
abbrev f38_R : Type 1 := (X : Type) → (Nat × (List CV) → Option X) → Nat → Int → Int → (List CV) → Option X
def f38_out (u : Nat × (List CV)) : Out := ⟨(.osl [2000] (some 4) 0 u.1), [([2000], (.row false (some 4) u.2))]⟩
def f38_cOf (R : f38_R) : FnC := fun X xs ns K => match xs, ns with
  | [(.osl [1000] (some 4) 0 x0), (.v (CV.int .i64 x1)), (.v (CV.int .i64 x2))], [([1000], (.row false (some 4) x3))] => R X (fun u => K (f38_out u)) x0 x1 x2 x3
  | _, _ => none
def f38_plan : Nat → Option (List Nat × List Wk)
  | 0 => some ([0, 1, 2], [])
  | 1 => some ([0, 1, 2], [])
  | 2 => some ([0, 1, 2], [])
  | 3 => some ([0], [])
  | 4 => some ([0, 1, 2], [])
  | 5 => some ([0, 1, 2, 7], [])
  | 6 => some ([0, 7], [])
  | 7 => some ([0], [])
  | _ => none
def f38_C : Fns := noC
theorem f38_Cok : CsOk Try.prog (f38_C) := noC_ok
def f38_cx : Cx := mkCx (tabOf rows) (f38_C) md (cmpIn cmps) f38_plan (f38_Cok)
def f38_T {X : Type} (k : Nat) (K : Nat × (List CV) → Option X)  (x0 : Nat) (x1 : Int) (x2 : Int) (x3 : List CV) : Option X :=
grd (decide (0 ≤ x1)) <|
grd (decide (x1 ≤ x2)) <|
grd (decide (x2 ≤ (Nat.cast (x0) : Int))) <|
grd (decide ((Nat.cast (x0) : Int) ≤ ((Nat.cast ((List.length x3)) : Int) - (0 : Int)))) <|
(bif (decide ((Nat.cast (x0) : Int) = ((Nat.cast ((List.length x3)) : Int) - (0 : Int)))) then
(bif (x1 == x2) then
K (x0, (List.take (0 + x0) x3))
else
grd (decide (0 ≤ x1)) <|
grd (decide (x1 ≤ ((Nat.cast ((List.length x3)) : Int) - 0))) <|
grd (decide (0 ≤ x2)) <|
grd (decide (x2 ≤ (Nat.cast (x0) : Int))) <|
grd (decide ((Nat.cast (x0) : Int) ≤ (Nat.cast (x0) : Int))) <|
grd (decide (((0 + ((Int.toNat x1) - 0)) + (List.length (List.take (x0 - (Int.toNat x2)) (List.drop (0 + (Int.toNat x2)) x3)))) ≤ (List.length x3))) <|
grd (decide ((Nat.cast ((((Int.toNat x1) - 0) + (List.length (List.take (x0 - (Int.toNat x2)) (List.drop (0 + (Int.toNat x2)) x3))))) : Int) ≤ (Nat.cast (x0) : Int))) <|
grd (decide ((Nat.cast (x0) : Int) ≤ ((Nat.cast ((List.length ((List.take (0 + ((Int.toNat x1) - 0)) x3) ++ (List.take (x0 - (Int.toNat x2)) (List.drop (0 + (Int.toNat x2)) x3)) ++ (List.drop ((0 + ((Int.toNat x1) - 0)) + (List.length (List.take (x0 - (Int.toNat x2)) (List.drop (0 + (Int.toNat x2)) x3)))) x3)))) : Int) - 0))) <|
grd (decide (((0 + (((Int.toNat x1) - 0) + (List.length (List.take (x0 - (Int.toNat x2)) (List.drop (0 + (Int.toNat x2)) x3))))) + (x0 - (((Int.toNat x1) - 0) + (List.length (List.take (x0 - (Int.toNat x2)) (List.drop (0 + (Int.toNat x2)) x3)))))) ≤ (List.length ((List.take (0 + ((Int.toNat x1) - 0)) x3) ++ (List.take (x0 - (Int.toNat x2)) (List.drop (0 + (Int.toNat x2)) x3)) ++ (List.drop ((0 + ((Int.toNat x1) - 0)) + (List.length (List.take (x0 - (Int.toNat x2)) (List.drop (0 + (Int.toNat x2)) x3)))) x3))))) <|
K ((((Int.toNat x1) - 0) + (List.length (List.take (x0 - (Int.toNat x2)) (List.drop (0 + (Int.toNat x2)) x3)))), (List.take (0 + (((Int.toNat x1) - 0) + (List.length (List.take (x0 - (Int.toNat x2)) (List.drop (0 + (Int.toNat x2)) x3))))) ((List.take (0 + (((Int.toNat x1) - 0) + (List.length (List.take (x0 - (Int.toNat x2)) (List.drop (0 + (Int.toNat x2)) x3))))) ((List.take (0 + ((Int.toNat x1) - 0)) x3) ++ (List.take (x0 - (Int.toNat x2)) (List.drop (0 + (Int.toNat x2)) x3)) ++ (List.drop ((0 + ((Int.toNat x1) - 0)) + (List.length (List.take (x0 - (Int.toNat x2)) (List.drop (0 + (Int.toNat x2)) x3)))) x3))) ++ List.replicate (x0 - (((Int.toNat x1) - 0) + (List.length (List.take (x0 - (Int.toNat x2)) (List.drop (0 + (Int.toNat x2)) x3))))) (CV.agg [(CV.int .i64 0), (CV.int .i64 0), (CV.int .i64 0), (CV.slc none [])]) ++ (List.drop ((0 + (((Int.toNat x1) - 0) + (List.length (List.take (x0 - (Int.toNat x2)) (List.drop (0 + (Int.toNat x2)) x3))))) + (x0 - (((Int.toNat x1) - 0) + (List.length (List.take (x0 - (Int.toNat x2)) (List.drop (0 + (Int.toNat x2)) x3)))))) ((List.take (0 + ((Int.toNat x1) - 0)) x3) ++ (List.take (x0 - (Int.toNat x2)) (List.drop (0 + (Int.toNat x2)) x3)) ++ (List.drop ((0 + ((Int.toNat x1) - 0)) + (List.length (List.take (x0 - (Int.toNat x2)) (List.drop (0 + (Int.toNat x2)) x3)))) x3)))))))
else
(bif (x1 == x2) then
K (x0, (List.take (0 + x0) x3))
else
grd (decide (0 ≤ x1)) <|
grd (decide (x1 ≤ ((Nat.cast ((List.length x3)) : Int) - 0))) <|
grd (decide (0 ≤ x2)) <|
grd (decide (x2 ≤ (Nat.cast (x0) : Int))) <|
grd (decide ((Nat.cast (x0) : Int) ≤ (Nat.cast (x0) : Int))) <|
grd (decide (((0 + ((Int.toNat x1) - 0)) + (List.length (List.take (x0 - (Int.toNat x2)) (List.drop (0 + (Int.toNat x2)) x3)))) ≤ (List.length x3))) <|
grd (decide ((Nat.cast ((((Int.toNat x1) - 0) + (List.length (List.take (x0 - (Int.toNat x2)) (List.drop (0 + (Int.toNat x2)) x3))))) : Int) ≤ (Nat.cast (x0) : Int))) <|
grd (decide ((Nat.cast (x0) : Int) ≤ ((Nat.cast ((List.length ((List.take (0 + ((Int.toNat x1) - 0)) x3) ++ (List.take (x0 - (Int.toNat x2)) (List.drop (0 + (Int.toNat x2)) x3)) ++ (List.drop ((0 + ((Int.toNat x1) - 0)) + (List.length (List.take (x0 - (Int.toNat x2)) (List.drop (0 + (Int.toNat x2)) x3)))) x3)))) : Int) - 0))) <|
grd (decide (((0 + (((Int.toNat x1) - 0) + (List.length (List.take (x0 - (Int.toNat x2)) (List.drop (0 + (Int.toNat x2)) x3))))) + (x0 - (((Int.toNat x1) - 0) + (List.length (List.take (x0 - (Int.toNat x2)) (List.drop (0 + (Int.toNat x2)) x3)))))) ≤ (List.length ((List.take (0 + ((Int.toNat x1) - 0)) x3) ++ (List.take (x0 - (Int.toNat x2)) (List.drop (0 + (Int.toNat x2)) x3)) ++ (List.drop ((0 + ((Int.toNat x1) - 0)) + (List.length (List.take (x0 - (Int.toNat x2)) (List.drop (0 + (Int.toNat x2)) x3)))) x3))))) <|
K ((((Int.toNat x1) - 0) + (List.length (List.take (x0 - (Int.toNat x2)) (List.drop (0 + (Int.toNat x2)) x3)))), (List.take (0 + (((Int.toNat x1) - 0) + (List.length (List.take (x0 - (Int.toNat x2)) (List.drop (0 + (Int.toNat x2)) x3))))) ((List.take (0 + (((Int.toNat x1) - 0) + (List.length (List.take (x0 - (Int.toNat x2)) (List.drop (0 + (Int.toNat x2)) x3))))) ((List.take (0 + ((Int.toNat x1) - 0)) x3) ++ (List.take (x0 - (Int.toNat x2)) (List.drop (0 + (Int.toNat x2)) x3)) ++ (List.drop ((0 + ((Int.toNat x1) - 0)) + (List.length (List.take (x0 - (Int.toNat x2)) (List.drop (0 + (Int.toNat x2)) x3)))) x3))) ++ List.replicate (x0 - (((Int.toNat x1) - 0) + (List.length (List.take (x0 - (Int.toNat x2)) (List.drop (0 + (Int.toNat x2)) x3))))) (CV.agg [(CV.int .i64 0), (CV.int .i64 0), (CV.int .i64 0), (CV.slc none [])]) ++ (List.drop ((0 + (((Int.toNat x1) - 0) + (List.length (List.take (x0 - (Int.toNat x2)) (List.drop (0 + (Int.toNat x2)) x3))))) + (x0 - (((Int.toNat x1) - 0) + (List.length (List.take (x0 - (Int.toNat x2)) (List.drop (0 + (Int.toNat x2)) x3)))))) ((List.take (0 + ((Int.toNat x1) - 0)) x3) ++ (List.take (x0 - (Int.toNat x2)) (List.drop (0 + (Int.toNat x2)) x3)) ++ (List.drop ((0 + ((Int.toNat x1) - 0)) + (List.length (List.take (x0 - (Int.toNat x2)) (List.drop (0 + (Int.toNat x2)) x3)))) x3))))))))
/-- "slices.Delete[[]outpost/cache.kept,outpost/cache.kept]" -/
def f38_A (k : Nat) : f38_R := fun X K x0 x1 x2 x3 => f38_T k K  x0 x1 x2 x3
set_option maxRecDepth 100000 in
theorem f38_ev' {X : Type} (k : Nat) (K : Out → Option X) (x0 : Nat) (x1 : Int) (x2 : Int) (x3 : List CV) : evFn (f38_cx) [] k Try.f38.ntmps Try.f38.results.toList (Try.f38.body.getD .skip) [(.osl [1000] (some 4) 0 x0), (.v (CV.int .i64 x1)), (.v (CV.int .i64 x2))] [([1000], (.row false (some 4) x3))] K = f38_T k (fun u => K (f38_out u)) x0 x1 x2 x3 := by kernel_rfl
theorem f38_ev {X : Type} (k : Nat) (K : Out → Option X) (x0 : Nat) (x1 : Int) (x2 : Int) (x3 : List CV) : evFn (f38_cx) [] k Try.f38.ntmps Try.f38.results.toList (Try.f38.body.getD .skip) [(.osl [1000] (some 4) 0 x0), (.v (CV.int .i64 x1)), (.v (CV.int .i64 x2))] [([1000], (.row false (some 4) x3))] K = f38_A k X (fun u => K (f38_out u)) x0 x1 x2 x3 := (f38_ev' k K x0 x1 x2 x3).trans rfl
theorem f38_okA (k : Nat) : AnsOk Try.prog 38 (f38_cOf (f38_A k)) := by
  intro X xs ns K x h
  unfold f38_cOf at h ⊢
  split at h
  · exact ans_main S (f38_Cok) Try.func38 (ent_of Try.func38 (by kernel_rfl) rfl) rfl (fun X K => f38_ev k K _ _ _ _) h
  · cases h
/-- "slices.Delete[[]outpost/cache.kept,outpost/cache.kept]" -/
def f38 {X : Type} (k : Nat) (K : Nat × (List CV) → Option X) (x0 : Nat) (x1 : Int) (x2 : Int) (x3 : List CV) : Option X := f38_A k X K x0 x1 x2 x3
theorem f38_ok (k : Nat) : AnsOk Try.prog 38 (f38_cOf (fun X => @f38 X k)) := f38_okA k
abbrev f40_R : Type 1 := (X : Type) → (Int × Nat × (List CV) → Option X) → Nat → (List CV) → Option X
def f40_out (u : Int × Nat × (List CV)) : Out := ⟨(.v (CV.int .i64 u.1)), [([1000], (.obj [(.osl [0, 1000] (some 4) 0 u.2.1)])), ([0, 1000], (.row false (some 4) u.2.2))]⟩
def f40_cOf (R : f40_R) : FnC := fun X xs ns K => match xs, ns with
  | [(.ptr [1000] 0 0 0)], [([1000], (.obj [(.osl [0, 1000] (some 4) 0 x0)])), ([0, 1000], (.row false (some 4) x1))] => R X (fun u => K (f40_out u)) x0 x1
  | _, _ => none
def f40_plan : Nat → Option (List Nat × List Wk)
  | 0 => some ([0], [])
  | 1 => some ([0], [])
  | 2 => some ([0, 3], [])
  | 3 => some ([0, 3, 9, 10, 11], [])
  | 4 => some ([0, 3, 9, 10, 11], [])
  | 5 => some ([0, 3, 4, 5, 9, 10, 11], [])
  | 6 => some ([0, 4, 9, 10, 11], [])
  | 7 => some ([0, 3, 9, 10, 11], [])
  | 8 => some ([3], [])
  | _ => none
def f40_C : Fns := noC
theorem f40_Cok : CsOk Try.prog (f40_C) := noC_ok
def f40_cx : Cx := mkCx (tabOf rows) (f40_C) md (cmpIn cmps) f40_plan (f40_Cok)
def f40_S1 (v : Int × Nat × Int × Int × Nat × (List CV)) : St := ⟨[(.ptr [1000] 0 0 0), .undef, .undef, (.v (CV.int .i64 v.1)), .undef, .undef, .undef, .undef, .undef, (.osl [0, 1000] (some 4) 0 v.2.1), (.v (CV.int .i64 v.2.2.1)), (.v (CV.int .i64 v.2.2.2.1)), .undef, .undef, .undef, .undef, .undef, .undef, .undef, .undef, .undef, .undef, .undef, .undef, .undef, .undef, .undef, .undef, .undef, .undef], [([1000], (.obj [(.osl [0, 1000] (some 4) 0 v.2.2.2.2.1)])), ([0, 1000], (.row false (some 4) v.2.2.2.2.2))]⟩
def f40_J1 {X : Type} (k : Nat) (K : Int × Nat × (List CV) → Option X) (rec1 : Int × Nat × Int × Int × Nat × (List CV) → Option X) (v5_0 : Int × Nat × Int × Int × Nat × (List CV)) (v11 : Int) : Option X :=
rec1 (v11, v5_0.2.1, v5_0.2.2.1, (IntKind.wrap .i64 (v5_0.2.2.2.1 + 1)), v5_0.2.2.2.2.1, v5_0.2.2.2.2.2)
def f40_T1 {X : Type} (k : Nat) (K : Int × Nat × (List CV) → Option X)   (rec1 : Int × Nat × Int × Int × Nat × (List CV) → Option X) (v5_0 : Int × Nat × Int × Int × Nat × (List CV)) : Option X :=
(bif (decide (v5_0.2.2.2.1 < v5_0.2.2.1)) then
grd (decide (0 ≤ v5_0.2.2.2.1)) <|
grd (decide (v5_0.2.2.2.1 < (Nat.cast (v5_0.2.1) : Int))) <|
Option.bind (v5_0.2.2.2.2.2)[(0 + (Int.toNat v5_0.2.2.2.1))]? fun e12 =>
grd (CV.isA 4 e12) <|
grd (CV.isI .i64 (CV.cellD 0 e12)) <|
grd (CV.isI .i64 (CV.cellD 1 e12)) <|
grd (CV.isI .i64 (CV.cellD 2 e12)) <|
grd (CV.isL none (CV.cellD 3 e12)) <|
grd (decide (0 ≤ v5_0.1)) <|
grd (decide (v5_0.1 < (Nat.cast (v5_0.2.2.2.2.1) : Int))) <|
Option.bind (v5_0.2.2.2.2.2)[(0 + (Int.toNat v5_0.1))]? fun e13 =>
Option.bind (CV.cell e13 2) fun c14 =>
grd (CV.isI .i64 c14) <|
(bif (decide ((CV.toI (CV.cellD 2 e12)) < (CV.toI c14))) then
f40_J1 k K rec1 v5_0 (v5_0.2.2.2.1)
else
f40_J1 k K rec1 v5_0 (v5_0.1))
else
K (v5_0.1, v5_0.2.2.2.2.1, (List.take (0 + v5_0.2.2.2.2.1) v5_0.2.2.2.2.2)))
def f40_L1 {X : Type} (k : Nat) (K : Int × Nat × (List CV) → Option X)  (rec1 : Int × Nat × Int × Int × Nat × (List CV) → Option X) (v : Int × Nat × Int × Int × Nat × (List CV)) : Option X := f40_T1 k K   rec1 v
set_option maxRecDepth 100000 in
theorem f40_L1_ev {X : Type} (k : Nat) (K : Out → Option X)  (r1 : St → Option X) (v : Int × Nat × Int × Int × Nat × (List CV)) : loopB (f40_cx) k [.r, .r, .l, .r, .b] (Try.f40.body.getD .skip) (retK (f40_cx) [] Try.f40.results.toList K) [] r1 (f40_S1 v) = f40_T1 k (fun u => K (f40_out u))   (fun v => r1 (f40_S1 v)) v := by kernel_rfl
theorem f40_L1_it {X : Type} (k : Nat) (K : Out → Option X)  : (fun v => iter (loopB (f40_cx) k [.r, .r, .l, .r, .b] (Try.f40.body.getD .skip) (retK (f40_cx) [] Try.f40.results.toList K) []) k (f40_S1 v)) = iterV (f40_L1 k (fun u => K (f40_out u)) ) k :=
  iter_map (fun r1 v => (f40_L1_ev k K  r1 v).trans rfl) k
def f40_T {X : Type} (k : Nat) (K : Int × Nat × (List CV) → Option X) (loop1 : Int × Nat × Int × Int × Nat × (List CV) → Option X) (x0 : Nat) (x1 : List CV) : Option X :=
loop1 (0, x0, (Nat.cast (x0) : Int), 0, x0, x1)
/-- "(*outpost/cache.Cache).eldest" -/
def f40_A (k : Nat) : f40_R := fun X K x0 x1 => f40_T k K (iterV (f40_L1 k K) k) x0 x1
set_option maxRecDepth 100000 in
theorem f40_ev' {X : Type} (k : Nat) (K : Out → Option X) (x0 : Nat) (x1 : List CV) : evFn (f40_cx) [] k Try.f40.ntmps Try.f40.results.toList (Try.f40.body.getD .skip) [(.ptr [1000] 0 0 0)] [([1000], (.obj [(.osl [0, 1000] (some 4) 0 x0)])), ([0, 1000], (.row false (some 4) x1))] K = f40_T k (fun u => K (f40_out u)) (fun v => iter (loopB (f40_cx) k [.r, .r, .l, .r, .b] (Try.f40.body.getD .skip) (retK (f40_cx) [] Try.f40.results.toList K) []) k (f40_S1 v)) x0 x1 := by kernel_rfl
theorem f40_ev {X : Type} (k : Nat) (K : Out → Option X) (x0 : Nat) (x1 : List CV) : evFn (f40_cx) [] k Try.f40.ntmps Try.f40.results.toList (Try.f40.body.getD .skip) [(.ptr [1000] 0 0 0)] [([1000], (.obj [(.osl [0, 1000] (some 4) 0 x0)])), ([0, 1000], (.row false (some 4) x1))] K = f40_A k X (fun u => K (f40_out u)) x0 x1 := (f40_ev' k K x0 x1).trans (by rw [f40_L1_it k K]; rfl)
theorem f40_okA (k : Nat) : AnsOk Try.prog 40 (f40_cOf (f40_A k)) := by
  intro X xs ns K x h
  unfold f40_cOf at h ⊢
  split at h
  · exact ans_main S (f40_Cok) Try.func40 (ent_of Try.func40 (by kernel_rfl) rfl) rfl (fun X K => f40_ev k K _ _) h
  · cases h
/-- "(*outpost/cache.Cache).eldest" -/
def f40 {X : Type} (k : Nat) (K : Int × Nat × (List CV) → Option X) (x0 : Nat) (x1 : List CV) : Option X := f40_A k X K x0 x1
theorem f40_ok (k : Nat) : AnsOk Try.prog 40 (f40_cOf (fun X => @f40 X k)) := f40_okA k
abbrev f17_R : Type 1 := (X : Type) → (Nat × (List CV) → Option X) → Int → Int → Int → (List CV) → Nat → (List CV) → Option X
def f17_out (u : Nat × (List CV)) : Out := ⟨(.tup []), [([1000], (.obj [(.osl [0, 1000] (some 4) 0 u.1)])), ([0, 1000], (.row false (some 4) u.2))]⟩
def f17_cOf (R : f17_R) : FnC := fun X xs ns K => match xs, ns with
  | [(.ptr [1000] 0 0 0), (.v (CV.int .i64 x0)), (.v (CV.int .i64 x1)), (.v (CV.int .i64 x2)), (.sl false none x3)], [([1000], (.obj [(.osl [0, 1000] (some 4) 0 x4)])), ([0, 1000], (.row false (some 4) x5))] => R X (fun u => K (f17_out u)) x0 x1 x2 x3 x4 x5
  | _, _ => none
def f17_plan : Nat → Option (List Nat × List Wk)
  | 0 => some ([0, 1, 2, 3, 4], [])
  | 1 => some ([0, 1, 2, 3, 4, 10], [])
  | 2 => some ([0, 1, 2, 3, 4, 10], [])
  | 3 => some ([0, 1, 2, 3, 4], [])
  | 4 => some ([0], [])
  | 5 => some ([0], [])
  | 6 => some ([0, 11], [])
  | _ => none
def f17_C (R_f35 : f35_R) (R_f38 : f38_R) (R_f39 : f39_R) (R_f29 : f29_R) (R_f40 : f40_R) : Fns := (orC 29 (f29_cOf R_f29) (orC 35 (f35_cOf R_f35) (orC 38 (f38_cOf R_f38) (orC 39 (f39_cOf R_f39) (orC 40 (f40_cOf R_f40) noC)))))
theorem f17_Cok (R_f35 : f35_R) (R_f38 : f38_R) (R_f39 : f39_R) (R_f29 : f29_R) (R_f40 : f40_R) (hR_f35 : AnsOk Try.prog 35 (f35_cOf R_f35)) (hR_f38 : AnsOk Try.prog 38 (f38_cOf R_f38)) (hR_f39 : AnsOk Try.prog 39 (f39_cOf R_f39)) (hR_f29 : AnsOk Try.prog 29 (f29_cOf R_f29)) (hR_f40 : AnsOk Try.prog 40 (f40_cOf R_f40)) : CsOk Try.prog (f17_C R_f35 R_f38 R_f39 R_f29 R_f40) := (orC_ok hR_f29 (orC_ok hR_f35 (orC_ok hR_f38 (orC_ok hR_f39 (orC_ok hR_f40 noC_ok)))))
def f17_cx (R_f35 : f35_R) (R_f38 : f38_R) (R_f39 : f39_R) (R_f29 : f29_R) (R_f40 : f40_R) (hR_f35 : AnsOk Try.prog 35 (f35_cOf R_f35)) (hR_f38 : AnsOk Try.prog 38 (f38_cOf R_f38)) (hR_f39 : AnsOk Try.prog 39 (f39_cOf R_f39)) (hR_f29 : AnsOk Try.prog 29 (f29_cOf R_f29)) (hR_f40 : AnsOk Try.prog 40 (f40_cOf R_f40)) : Cx := mkCx (tabOf rows) (f17_C R_f35 R_f38 R_f39 R_f29 R_f40) md (cmpIn cmps) f17_plan (f17_Cok R_f35 R_f38 R_f39 R_f29 R_f40 hR_f35 hR_f38 hR_f39 hR_f29 hR_f40)
def f17_J1 {X : Type} (R_f35 : f35_R) (R_f38 : f38_R) (R_f39 : f39_R) (R_f29 : f29_R) (R_f40 : f40_R) (k : Nat) (K : Nat × (List CV) → Option X) (x0 : Int) (v3 : Int × Int × (List CV) × Nat × (List CV)) : Option X :=
R_f39 _ (fun u4 =>
R_f29 _ (fun u5 =>
grd (decide ((v3.2.2.2.1 + (List.length (List.take 1 (List.drop 0 [(CV.agg [(CV.int .i64 x0), (CV.int .i64 v3.1), (CV.int .i64 u4), (CV.slc none (List.take (List.length u5) (List.drop 0 u5)))])])))) * 48 ≤ 140737488355328)) <|
(bif (decide ((Nat.cast ((v3.2.2.2.1 + (List.length (List.take 1 (List.drop 0 [(CV.agg [(CV.int .i64 x0), (CV.int .i64 v3.1), (CV.int .i64 u4), (CV.slc none (List.take (List.length u5) (List.drop 0 u5)))])]))))) : Int) > 8)) then
R_f40 _ (fun u6 =>
R_f38 _ (fun u7 =>
K (u7.1, (List.take (0 + u7.1) u7.2))) (u6.2.1) (u6.1) ((IntKind.wrap .i64 (u6.1 + 1))) (u6.2.2)) ((v3.2.2.2.1 + (List.length (List.take 1 (List.drop 0 [(CV.agg [(CV.int .i64 x0), (CV.int .i64 v3.1), (CV.int .i64 u4), (CV.slc none (List.take (List.length u5) (List.drop 0 u5)))])]))))) (((List.take v3.2.2.2.1 v3.2.2.2.2) ++ (List.take 1 (List.drop 0 [(CV.agg [(CV.int .i64 x0), (CV.int .i64 v3.1), (CV.int .i64 u4), (CV.slc none (List.take (List.length u5) (List.drop 0 u5)))])]))))
else
K ((v3.2.2.2.1 + (List.length (List.take 1 (List.drop 0 [(CV.agg [(CV.int .i64 x0), (CV.int .i64 v3.1), (CV.int .i64 u4), (CV.slc none (List.take (List.length u5) (List.drop 0 u5)))])])))), (List.take (0 + (v3.2.2.2.1 + (List.length (List.take 1 (List.drop 0 [(CV.agg [(CV.int .i64 x0), (CV.int .i64 v3.1), (CV.int .i64 u4), (CV.slc none (List.take (List.length u5) (List.drop 0 u5)))])]))))) ((List.take v3.2.2.2.1 v3.2.2.2.2) ++ (List.take 1 (List.drop 0 [(CV.agg [(CV.int .i64 x0), (CV.int .i64 v3.1), (CV.int .i64 u4), (CV.slc none (List.take (List.length u5) (List.drop 0 u5)))])]))))))) (v3.2.2.1)) (v3.2.1)
def f17_T {X : Type} (R_f35 : f35_R) (R_f38 : f38_R) (R_f39 : f39_R) (R_f29 : f29_R) (R_f40 : f40_R) (k : Nat) (K : Nat × (List CV) → Option X)  (x0 : Int) (x1 : Int) (x2 : Int) (x3 : List CV) (x4 : Nat) (x5 : List CV) : Option X :=
R_f35 _ (fun u8 =>
(bif (decide (u8.1 ≥ 0)) then
R_f38 _ (fun u9 =>
f17_J1 R_f35 R_f38 R_f39 R_f29 R_f40 k K x0 (x1, x2, x3, u9.1, u9.2)) (u8.2.1) (u8.1) ((IntKind.wrap .i64 (u8.1 + 1))) (u8.2.2)
else
f17_J1 R_f35 R_f38 R_f39 R_f29 R_f40 k K x0 (x1, x2, x3, u8.2.1, u8.2.2))) (x0) (x1) (x4) (x5)
/-- "(*outpost/cache.Cache).Keep" -/
def f17_A (R_f35 : f35_R) (R_f38 : f38_R) (R_f39 : f39_R) (R_f29 : f29_R) (R_f40 : f40_R) (k : Nat) : f17_R := fun X K x0 x1 x2 x3 x4 x5 => f17_T R_f35 R_f38 R_f39 R_f29 R_f40 k K  x0 x1 x2 x3 x4 x5
set_option maxRecDepth 100000 in
theorem f17_ev' {X : Type} (R_f35 : f35_R) (R_f38 : f38_R) (R_f39 : f39_R) (R_f29 : f29_R) (R_f40 : f40_R) (hR_f35 : AnsOk Try.prog 35 (f35_cOf R_f35)) (hR_f38 : AnsOk Try.prog 38 (f38_cOf R_f38)) (hR_f39 : AnsOk Try.prog 39 (f39_cOf R_f39)) (hR_f29 : AnsOk Try.prog 29 (f29_cOf R_f29)) (hR_f40 : AnsOk Try.prog 40 (f40_cOf R_f40)) (k : Nat) (K : Out → Option X) (x0 : Int) (x1 : Int) (x2 : Int) (x3 : List CV) (x4 : Nat) (x5 : List CV) : evFn (f17_cx R_f35 R_f38 R_f39 R_f29 R_f40 hR_f35 hR_f38 hR_f39 hR_f29 hR_f40) [] k Try.f17.ntmps Try.f17.results.toList (Try.f17.body.getD .skip) [(.ptr [1000] 0 0 0), (.v (CV.int .i64 x0)), (.v (CV.int .i64 x1)), (.v (CV.int .i64 x2)), (.sl false none x3)] [([1000], (.obj [(.osl [0, 1000] (some 4) 0 x4)])), ([0, 1000], (.row false (some 4) x5))] K = f17_T R_f35 R_f38 R_f39 R_f29 R_f40 k (fun u => K (f17_out u)) x0 x1 x2 x3 x4 x5 := by kernel_rfl
theorem f17_ev {X : Type} (R_f35 : f35_R) (R_f38 : f38_R) (R_f39 : f39_R) (R_f29 : f29_R) (R_f40 : f40_R) (hR_f35 : AnsOk Try.prog 35 (f35_cOf R_f35)) (hR_f38 : AnsOk Try.prog 38 (f38_cOf R_f38)) (hR_f39 : AnsOk Try.prog 39 (f39_cOf R_f39)) (hR_f29 : AnsOk Try.prog 29 (f29_cOf R_f29)) (hR_f40 : AnsOk Try.prog 40 (f40_cOf R_f40)) (k : Nat) (K : Out → Option X) (x0 : Int) (x1 : Int) (x2 : Int) (x3 : List CV) (x4 : Nat) (x5 : List CV) : evFn (f17_cx R_f35 R_f38 R_f39 R_f29 R_f40 hR_f35 hR_f38 hR_f39 hR_f29 hR_f40) [] k Try.f17.ntmps Try.f17.results.toList (Try.f17.body.getD .skip) [(.ptr [1000] 0 0 0), (.v (CV.int .i64 x0)), (.v (CV.int .i64 x1)), (.v (CV.int .i64 x2)), (.sl false none x3)] [([1000], (.obj [(.osl [0, 1000] (some 4) 0 x4)])), ([0, 1000], (.row false (some 4) x5))] K = f17_A R_f35 R_f38 R_f39 R_f29 R_f40 k X (fun u => K (f17_out u)) x0 x1 x2 x3 x4 x5 := (f17_ev' R_f35 R_f38 R_f39 R_f29 R_f40 hR_f35 hR_f38 hR_f39 hR_f29 hR_f40 k K x0 x1 x2 x3 x4 x5).trans rfl
theorem f17_okA (R_f35 : f35_R) (R_f38 : f38_R) (R_f39 : f39_R) (R_f29 : f29_R) (R_f40 : f40_R) (hR_f35 : AnsOk Try.prog 35 (f35_cOf R_f35)) (hR_f38 : AnsOk Try.prog 38 (f38_cOf R_f38)) (hR_f39 : AnsOk Try.prog 39 (f39_cOf R_f39)) (hR_f29 : AnsOk Try.prog 29 (f29_cOf R_f29)) (hR_f40 : AnsOk Try.prog 40 (f40_cOf R_f40)) (k : Nat) : AnsOk Try.prog 17 (f17_cOf (f17_A R_f35 R_f38 R_f39 R_f29 R_f40 k)) := by
  intro X xs ns K x h
  unfold f17_cOf at h ⊢
  split at h
  · exact ans_main S (f17_Cok R_f35 R_f38 R_f39 R_f29 R_f40 hR_f35 hR_f38 hR_f39 hR_f29 hR_f40) Try.func17 (ent_of Try.func17 (by kernel_rfl) rfl) rfl (fun X K => f17_ev R_f35 R_f38 R_f39 R_f29 R_f40 hR_f35 hR_f38 hR_f39 hR_f29 hR_f40 k K _ _ _ _ _ _) h
  · cases h
/-- "(*outpost/cache.Cache).Keep" -/
def f17 {X : Type} (k : Nat) (K : Nat × (List CV) → Option X) (x0 : Int) (x1 : Int) (x2 : Int) (x3 : List CV) (x4 : Nat) (x5 : List CV) : Option X := f17_A (fun X => @f35 X k) (fun X => @f38 X k) (fun X => @f39 X k) (fun X => @f29 X k) (fun X => @f40 X k) k X K x0 x1 x2 x3 x4 x5
theorem f17_ok (k : Nat) : AnsOk Try.prog 17 (f17_cOf (fun X => @f17 X k)) := f17_okA (fun X => @f35 X k) (fun X => @f38 X k) (fun X => @f39 X k) (fun X => @f29 X k) (fun X => @f40 X k) (f35_ok k) (f38_ok k) (f39_ok k) (f29_ok k) (f40_ok k) k
abbrev f13_R : Type 1 := (X : Type) → (Bool → Option X) → (List CV) → (List CV) → Option X
def f13_out (u : Bool) : Out := ⟨(.v (CV.bool u)), []⟩
def f13_cOf (R : f13_R) : FnC := fun X xs ns K => match xs, ns with
  | [(.sl false none x0), (.sl false none x1)], [] => R X (fun u => K (f13_out u)) x0 x1
  | _, _ => none
def f13_plan : Nat → Option (List Nat × List Wk)
  | 0 => some ([0, 1], [])
  | 1 => some ([0, 1], [])
  | 2 => some ([], [])
  | 3 => some ([0, 1], [])
  | 4 => some ([0, 1, 5], [])
  | 5 => some ([0, 1, 5], [])
  | 6 => some ([0, 1, 5], [])
  | 7 => some ([], [])
  | 8 => some ([], [])
  | _ => none
def f13_C : Fns := noC
theorem f13_Cok : CsOk Try.prog (f13_C) := noC_ok
def f13_cx : Cx := mkCx (tabOf rows) (f13_C) md (cmpIn cmps) f13_plan (f13_Cok)
def f13_S1 (v : (List CV) × (List CV) × Int) : St := ⟨[(.sl false none v.1), (.sl false none v.2.1), .undef, .undef, .undef, (.v (CV.int .i64 v.2.2)), .undef, .undef, .undef, .undef, .undef, .undef, .undef, .undef, .undef, .undef, .undef, .undef, .undef, .undef, .undef, .undef, .undef, .undef, .undef, .undef], []⟩
def f13_T1 {X : Type} (k : Nat) (K : Bool → Option X)   (rec1 : (List CV) × (List CV) × Int → Option X) (v5_0 : (List CV) × (List CV) × Int) : Option X :=
(bif (decide (v5_0.2.2 < (Nat.cast ((List.length v5_0.1)) : Int))) then
grd (decide (0 ≤ v5_0.2.2)) <|
Option.bind (v5_0.1)[(Int.toNat v5_0.2.2)]? fun e8 =>
grd (CV.isI .u8 e8) <|
grd (decide (0 ≤ v5_0.2.2)) <|
Option.bind (v5_0.2.1)[(Int.toNat v5_0.2.2)]? fun e9 =>
grd (CV.isI .u8 e9) <|
(bif ((CV.toI e8) != (CV.toI e9)) then
K (false)
else
rec1 (v5_0.1, v5_0.2.1, (IntKind.wrap .i64 (v5_0.2.2 + 1))))
else
K (true))
def f13_L1 {X : Type} (k : Nat) (K : Bool → Option X)  (rec1 : (List CV) × (List CV) × Int → Option X) (v : (List CV) × (List CV) × Int) : Option X := f13_T1 k K   rec1 v
set_option maxRecDepth 100000 in
theorem f13_L1_ev {X : Type} (k : Nat) (K : Out → Option X)  (r1 : St → Option X) (v : (List CV) × (List CV) × Int) : loopB (f13_cx) k [.r, .r, .l, .r, .b] (Try.f13.body.getD .skip) (retK (f13_cx) [] Try.f13.results.toList K) [] r1 (f13_S1 v) = f13_T1 k (fun u => K (f13_out u))   (fun v => r1 (f13_S1 v)) v := by kernel_rfl
theorem f13_L1_it {X : Type} (k : Nat) (K : Out → Option X)  : (fun v => iter (loopB (f13_cx) k [.r, .r, .l, .r, .b] (Try.f13.body.getD .skip) (retK (f13_cx) [] Try.f13.results.toList K) []) k (f13_S1 v)) = iterV (f13_L1 k (fun u => K (f13_out u)) ) k :=
  iter_map (fun r1 v => (f13_L1_ev k K  r1 v).trans rfl) k
def f13_T {X : Type} (k : Nat) (K : Bool → Option X) (loop1 : (List CV) × (List CV) × Int → Option X) (x0 : List CV) (x1 : List CV) : Option X :=
(bif ((Nat.cast ((List.length x0)) : Int) != (Nat.cast ((List.length x1)) : Int)) then
K (false)
else
loop1 (x0, x1, 0))
/-- "outpost/outpostref01.Same" -/
def f13_A (k : Nat) : f13_R := fun X K x0 x1 => f13_T k K (iterV (f13_L1 k K) k) x0 x1
set_option maxRecDepth 100000 in
theorem f13_ev' {X : Type} (k : Nat) (K : Out → Option X) (x0 : List CV) (x1 : List CV) : evFn (f13_cx) [] k Try.f13.ntmps Try.f13.results.toList (Try.f13.body.getD .skip) [(.sl false none x0), (.sl false none x1)] [] K = f13_T k (fun u => K (f13_out u)) (fun v => iter (loopB (f13_cx) k [.r, .r, .l, .r, .b] (Try.f13.body.getD .skip) (retK (f13_cx) [] Try.f13.results.toList K) []) k (f13_S1 v)) x0 x1 := by kernel_rfl
theorem f13_ev {X : Type} (k : Nat) (K : Out → Option X) (x0 : List CV) (x1 : List CV) : evFn (f13_cx) [] k Try.f13.ntmps Try.f13.results.toList (Try.f13.body.getD .skip) [(.sl false none x0), (.sl false none x1)] [] K = f13_A k X (fun u => K (f13_out u)) x0 x1 := (f13_ev' k K x0 x1).trans (by rw [f13_L1_it k K]; rfl)
theorem f13_okA (k : Nat) : AnsOk Try.prog 13 (f13_cOf (f13_A k)) := by
  intro X xs ns K x h
  unfold f13_cOf at h ⊢
  split at h
  · exact ans_main S (f13_Cok) Try.func13 (ent_of Try.func13 (by kernel_rfl) rfl) rfl (fun X K => f13_ev k K _ _) h
  · cases h
/-- "outpost/outpostref01.Same" -/
def f13 {X : Type} (k : Nat) (K : Bool → Option X) (x0 : List CV) (x1 : List CV) : Option X := f13_A k X K x0 x1
theorem f13_ok (k : Nat) : AnsOk Try.prog 13 (f13_cOf (fun X => @f13 X k)) := f13_okA k
abbrev f30_R : Type 1 := (X : Type) → (Int × Nat × Int × (List CV) → Option X) → Nat → Int → (List CV) → Option X
def f30_out (u : Int × Nat × Int × (List CV)) : Out := ⟨(.v (CV.int .i64 u.1)), [([1000], (.obj [(.osl [0, 1000] (some 6) 0 u.2.1), (.v (CV.int .i64 u.2.2.1))])), ([0, 1000], (.row false (some 6) u.2.2.2))]⟩
def f30_cOf (R : f30_R) : FnC := fun X xs ns K => match xs, ns with
  | [(.ptr [1000] 0 0 0)], [([1000], (.obj [(.osl [0, 1000] (some 6) 0 x0), (.v (CV.int .i64 x1))])), ([0, 1000], (.row false (some 6) x2))] => R X (fun u => K (f30_out u)) x0 x1 x2
  | _, _ => none
def f30_plan : Nat → Option (List Nat × List Wk)
  | 0 => some ([0], [])
  | 1 => some ([0], [])
  | 2 => some ([0, 3], [])
  | 3 => some ([0, 3, 9, 10, 11], [])
  | 4 => some ([0, 3, 9, 10, 11], [])
  | 5 => some ([0, 3, 4, 5, 9, 10, 11], [])
  | 6 => some ([0, 4, 9, 10, 11], [])
  | 7 => some ([0, 3, 9, 10, 11], [])
  | 8 => some ([3], [])
  | _ => none
def f30_C : Fns := noC
theorem f30_Cok : CsOk Try.prog (f30_C) := noC_ok
def f30_cx : Cx := mkCx (tabOf rows) (f30_C) md (cmpIn cmps) f30_plan (f30_Cok)
def f30_S1 (v : Int × Nat × Int × Int × Nat × Int × (List CV)) : St := ⟨[(.ptr [1000] 0 0 0), .undef, .undef, (.v (CV.int .i64 v.1)), .undef, .undef, .undef, .undef, .undef, (.osl [0, 1000] (some 6) 0 v.2.1), (.v (CV.int .i64 v.2.2.1)), (.v (CV.int .i64 v.2.2.2.1)), .undef, .undef, .undef, .undef, .undef, .undef, .undef, .undef, .undef, .undef, .undef, .undef, .undef, .undef, .undef, .undef, .undef, .undef, .undef, .undef, .undef, .undef], [([1000], (.obj [(.osl [0, 1000] (some 6) 0 v.2.2.2.2.1), (.v (CV.int .i64 v.2.2.2.2.2.1))])), ([0, 1000], (.row false (some 6) v.2.2.2.2.2.2))]⟩
def f30_J1 {X : Type} (k : Nat) (K : Int × Nat × Int × (List CV) → Option X) (rec1 : Int × Nat × Int × Int × Nat × Int × (List CV) → Option X) (v5_0 : Int × Nat × Int × Int × Nat × Int × (List CV)) (v11 : Int) : Option X :=
rec1 (v11, v5_0.2.1, v5_0.2.2.1, (IntKind.wrap .i64 (v5_0.2.2.2.1 + 1)), v5_0.2.2.2.2.1, v5_0.2.2.2.2.2.1, v5_0.2.2.2.2.2.2)
def f30_T1 {X : Type} (k : Nat) (K : Int × Nat × Int × (List CV) → Option X)   (rec1 : Int × Nat × Int × Int × Nat × Int × (List CV) → Option X) (v5_0 : Int × Nat × Int × Int × Nat × Int × (List CV)) : Option X :=
(bif (decide (v5_0.2.2.2.1 < v5_0.2.2.1)) then
grd (decide (0 ≤ v5_0.2.2.2.1)) <|
grd (decide (v5_0.2.2.2.1 < (Nat.cast (v5_0.2.1) : Int))) <|
Option.bind (v5_0.2.2.2.2.2.2)[(0 + (Int.toNat v5_0.2.2.2.1))]? fun e12 =>
grd (CV.isA 6 e12) <|
grd (CV.isI .i64 (CV.cellD 0 e12)) <|
grd (CV.isI .i64 (CV.cellD 1 e12)) <|
grd (CV.isL none (CV.cellD 2 e12)) <|
grd (CV.isI .i64 (CV.cellD 3 e12)) <|
grd (CV.isI .i64 (CV.cellD 4 e12)) <|
grd (CV.isI .i64 (CV.cellD 5 e12)) <|
(bif (decide (v5_0.1 < 0)) then
f30_J1 k K rec1 v5_0 (v5_0.2.2.2.1)
else
grd (decide (0 ≤ v5_0.1)) <|
grd (decide (v5_0.1 < (Nat.cast (v5_0.2.2.2.2.1) : Int))) <|
Option.bind (v5_0.2.2.2.2.2.2)[(0 + (Int.toNat v5_0.1))]? fun e13 =>
Option.bind (CV.cell e13 3) fun c14 =>
grd (CV.isI .i64 c14) <|
(bif (decide ((CV.toI (CV.cellD 3 e12)) < (CV.toI c14))) then
f30_J1 k K rec1 v5_0 (v5_0.2.2.2.1)
else
f30_J1 k K rec1 v5_0 (v5_0.1)))
else
K (v5_0.1, v5_0.2.2.2.2.1, v5_0.2.2.2.2.2.1, (List.take (0 + v5_0.2.2.2.2.1) v5_0.2.2.2.2.2.2)))
def f30_L1 {X : Type} (k : Nat) (K : Int × Nat × Int × (List CV) → Option X)  (rec1 : Int × Nat × Int × Int × Nat × Int × (List CV) → Option X) (v : Int × Nat × Int × Int × Nat × Int × (List CV)) : Option X := f30_T1 k K   rec1 v
set_option maxRecDepth 100000 in
theorem f30_L1_ev {X : Type} (k : Nat) (K : Out → Option X)  (r1 : St → Option X) (v : Int × Nat × Int × Int × Nat × Int × (List CV)) : loopB (f30_cx) k [.r, .r, .l, .r, .b] (Try.f30.body.getD .skip) (retK (f30_cx) [] Try.f30.results.toList K) [] r1 (f30_S1 v) = f30_T1 k (fun u => K (f30_out u))   (fun v => r1 (f30_S1 v)) v := by kernel_rfl
theorem f30_L1_it {X : Type} (k : Nat) (K : Out → Option X)  : (fun v => iter (loopB (f30_cx) k [.r, .r, .l, .r, .b] (Try.f30.body.getD .skip) (retK (f30_cx) [] Try.f30.results.toList K) []) k (f30_S1 v)) = iterV (f30_L1 k (fun u => K (f30_out u)) ) k :=
  iter_map (fun r1 v => (f30_L1_ev k K  r1 v).trans rfl) k
def f30_T {X : Type} (k : Nat) (K : Int × Nat × Int × (List CV) → Option X) (loop1 : Int × Nat × Int × Int × Nat × Int × (List CV) → Option X) (x0 : Nat) (x1 : Int) (x2 : List CV) : Option X :=
loop1 ((-1), x0, (Nat.cast (x0) : Int), 0, x0, x1, x2)
/-- "(*outpost/exch.Table).first" -/
def f30_A (k : Nat) : f30_R := fun X K x0 x1 x2 => f30_T k K (iterV (f30_L1 k K) k) x0 x1 x2
set_option maxRecDepth 100000 in
theorem f30_ev' {X : Type} (k : Nat) (K : Out → Option X) (x0 : Nat) (x1 : Int) (x2 : List CV) : evFn (f30_cx) [] k Try.f30.ntmps Try.f30.results.toList (Try.f30.body.getD .skip) [(.ptr [1000] 0 0 0)] [([1000], (.obj [(.osl [0, 1000] (some 6) 0 x0), (.v (CV.int .i64 x1))])), ([0, 1000], (.row false (some 6) x2))] K = f30_T k (fun u => K (f30_out u)) (fun v => iter (loopB (f30_cx) k [.r, .r, .l, .r, .b] (Try.f30.body.getD .skip) (retK (f30_cx) [] Try.f30.results.toList K) []) k (f30_S1 v)) x0 x1 x2 := by kernel_rfl
theorem f30_ev {X : Type} (k : Nat) (K : Out → Option X) (x0 : Nat) (x1 : Int) (x2 : List CV) : evFn (f30_cx) [] k Try.f30.ntmps Try.f30.results.toList (Try.f30.body.getD .skip) [(.ptr [1000] 0 0 0)] [([1000], (.obj [(.osl [0, 1000] (some 6) 0 x0), (.v (CV.int .i64 x1))])), ([0, 1000], (.row false (some 6) x2))] K = f30_A k X (fun u => K (f30_out u)) x0 x1 x2 := (f30_ev' k K x0 x1 x2).trans (by rw [f30_L1_it k K]; rfl)
theorem f30_okA (k : Nat) : AnsOk Try.prog 30 (f30_cOf (f30_A k)) := by
  intro X xs ns K x h
  unfold f30_cOf at h ⊢
  split at h
  · exact ans_main S (f30_Cok) Try.func30 (ent_of Try.func30 (by kernel_rfl) rfl) rfl (fun X K => f30_ev k K _ _ _) h
  · cases h
/-- "(*outpost/exch.Table).first" -/
def f30 {X : Type} (k : Nat) (K : Int × Nat × Int × (List CV) → Option X) (x0 : Nat) (x1 : Int) (x2 : List CV) : Option X := f30_A k X K x0 x1 x2
theorem f30_ok (k : Nat) : AnsOk Try.prog 30 (f30_cOf (fun X => @f30 X k)) := f30_okA k
abbrev f11_R : Type 1 := (X : Type) → (Int × Bool × Nat × Int × (List CV) → Option X) → Nat → Int → (List CV) → Option X
def f11_out (u : Int × Bool × Nat × Int × (List CV)) : Out := ⟨(.tup [(.v (CV.int .i64 u.1)), (.v (CV.bool u.2.1))]), [([1000], (.obj [(.osl [0, 1000] (some 6) 0 u.2.2.1), (.v (CV.int .i64 u.2.2.2.1))])), ([0, 1000], (.row false (some 6) u.2.2.2.2))]⟩
def f11_cOf (R : f11_R) : FnC := fun X xs ns K => match xs, ns with
  | [(.ptr [1000] 0 0 0)], [([1000], (.obj [(.osl [0, 1000] (some 6) 0 x0), (.v (CV.int .i64 x1))])), ([0, 1000], (.row false (some 6) x2))] => R X (fun u => K (f11_out u)) x0 x1 x2
  | _, _ => none
def f11_plan : Nat → Option (List Nat × List Wk)
  | 0 => some ([0], [])
  | 1 => some ([0], [])
  | 2 => some ([0, 4], [])
  | 3 => some ([], [])
  | 4 => some ([0, 4], [])
  | _ => none
def f11_C (R_f30 : f30_R) : Fns := (orC 30 (f30_cOf R_f30) noC)
theorem f11_Cok (R_f30 : f30_R) (hR_f30 : AnsOk Try.prog 30 (f30_cOf R_f30)) : CsOk Try.prog (f11_C R_f30) := (orC_ok hR_f30 noC_ok)
def f11_cx (R_f30 : f30_R) (hR_f30 : AnsOk Try.prog 30 (f30_cOf R_f30)) : Cx := mkCx (tabOf rows) (f11_C R_f30) md (cmpIn cmps) f11_plan (f11_Cok R_f30 hR_f30)
def f11_T {X : Type} (R_f30 : f30_R) (k : Nat) (K : Int × Bool × Nat × Int × (List CV) → Option X)  (x0 : Nat) (x1 : Int) (x2 : List CV) : Option X :=
R_f30 _ (fun u1 =>
(bif (decide (u1.1 < 0)) then
K (0, false, u1.2.1, u1.2.2.1, (List.take (0 + u1.2.1) u1.2.2.2))
else
grd (decide (0 ≤ u1.1)) <|
grd (decide (u1.1 < (Nat.cast (u1.2.1) : Int))) <|
Option.bind (u1.2.2.2)[(0 + (Int.toNat u1.1))]? fun e2 =>
Option.bind (CV.cell e2 3) fun c3 =>
grd (CV.isI .i64 c3) <|
K ((CV.toI c3), true, u1.2.1, u1.2.2.1, (List.take (0 + u1.2.1) u1.2.2.2)))) (x0) (x1) (x2)
/-- "(*outpost/exch.Table).Next" -/
def f11_A (R_f30 : f30_R) (k : Nat) : f11_R := fun X K x0 x1 x2 => f11_T R_f30 k K  x0 x1 x2
set_option maxRecDepth 100000 in
theorem f11_ev' {X : Type} (R_f30 : f30_R) (hR_f30 : AnsOk Try.prog 30 (f30_cOf R_f30)) (k : Nat) (K : Out → Option X) (x0 : Nat) (x1 : Int) (x2 : List CV) : evFn (f11_cx R_f30 hR_f30) [] k Try.f11.ntmps Try.f11.results.toList (Try.f11.body.getD .skip) [(.ptr [1000] 0 0 0)] [([1000], (.obj [(.osl [0, 1000] (some 6) 0 x0), (.v (CV.int .i64 x1))])), ([0, 1000], (.row false (some 6) x2))] K = f11_T R_f30 k (fun u => K (f11_out u)) x0 x1 x2 := by kernel_rfl
theorem f11_ev {X : Type} (R_f30 : f30_R) (hR_f30 : AnsOk Try.prog 30 (f30_cOf R_f30)) (k : Nat) (K : Out → Option X) (x0 : Nat) (x1 : Int) (x2 : List CV) : evFn (f11_cx R_f30 hR_f30) [] k Try.f11.ntmps Try.f11.results.toList (Try.f11.body.getD .skip) [(.ptr [1000] 0 0 0)] [([1000], (.obj [(.osl [0, 1000] (some 6) 0 x0), (.v (CV.int .i64 x1))])), ([0, 1000], (.row false (some 6) x2))] K = f11_A R_f30 k X (fun u => K (f11_out u)) x0 x1 x2 := (f11_ev' R_f30 hR_f30 k K x0 x1 x2).trans rfl
theorem f11_okA (R_f30 : f30_R) (hR_f30 : AnsOk Try.prog 30 (f30_cOf R_f30)) (k : Nat) : AnsOk Try.prog 11 (f11_cOf (f11_A R_f30 k)) := by
  intro X xs ns K x h
  unfold f11_cOf at h ⊢
  split at h
  · exact ans_main S (f11_Cok R_f30 hR_f30) Try.func11 (ent_of Try.func11 (by kernel_rfl) rfl) rfl (fun X K => f11_ev R_f30 hR_f30 k K _ _ _) h
  · cases h
/-- "(*outpost/exch.Table).Next" -/
def f11 {X : Type} (k : Nat) (K : Int × Bool × Nat × Int × (List CV) → Option X) (x0 : Nat) (x1 : Int) (x2 : List CV) : Option X := f11_A (fun X => @f30 X k) k X K x0 x1 x2
theorem f11_ok (k : Nat) : AnsOk Try.prog 11 (f11_cOf (fun X => @f11 X k)) := f11_okA (fun X => @f30 X k) (f30_ok k) k
abbrev f42_R : Type 1 := (X : Type) → (Nat × (List CV) → Option X) → Nat → Int → Int → (List CV) → Option X
def f42_out (u : Nat × (List CV)) : Out := ⟨(.osl [2000] (some 6) 0 u.1), [([2000], (.row false (some 6) u.2))]⟩
def f42_cOf (R : f42_R) : FnC := fun X xs ns K => match xs, ns with
  | [(.osl [1000] (some 6) 0 x0), (.v (CV.int .i64 x1)), (.v (CV.int .i64 x2))], [([1000], (.row false (some 6) x3))] => R X (fun u => K (f42_out u)) x0 x1 x2 x3
  | _, _ => none
def f42_plan : Nat → Option (List Nat × List Wk)
  | 0 => some ([0, 1, 2], [])
  | 1 => some ([0, 1, 2], [])
  | 2 => some ([0, 1, 2], [])
  | 3 => some ([0], [])
  | 4 => some ([0, 1, 2], [])
  | 5 => some ([0, 1, 2, 7], [])
  | 6 => some ([0, 7], [])
  | 7 => some ([0], [])
  | _ => none
def f42_C : Fns := noC
theorem f42_Cok : CsOk Try.prog (f42_C) := noC_ok
def f42_cx : Cx := mkCx (tabOf rows) (f42_C) md (cmpIn cmps) f42_plan (f42_Cok)
def f42_T {X : Type} (k : Nat) (K : Nat × (List CV) → Option X)  (x0 : Nat) (x1 : Int) (x2 : Int) (x3 : List CV) : Option X :=
grd (decide (0 ≤ x1)) <|
grd (decide (x1 ≤ x2)) <|
grd (decide (x2 ≤ (Nat.cast (x0) : Int))) <|
grd (decide ((Nat.cast (x0) : Int) ≤ ((Nat.cast ((List.length x3)) : Int) - (0 : Int)))) <|
(bif (decide ((Nat.cast (x0) : Int) = ((Nat.cast ((List.length x3)) : Int) - (0 : Int)))) then
(bif (x1 == x2) then
K (x0, (List.take (0 + x0) x3))
else
grd (decide (0 ≤ x1)) <|
grd (decide (x1 ≤ ((Nat.cast ((List.length x3)) : Int) - 0))) <|
grd (decide (0 ≤ x2)) <|
grd (decide (x2 ≤ (Nat.cast (x0) : Int))) <|
grd (decide ((Nat.cast (x0) : Int) ≤ (Nat.cast (x0) : Int))) <|
grd (decide (((0 + ((Int.toNat x1) - 0)) + (List.length (List.take (x0 - (Int.toNat x2)) (List.drop (0 + (Int.toNat x2)) x3)))) ≤ (List.length x3))) <|
grd (decide ((Nat.cast ((((Int.toNat x1) - 0) + (List.length (List.take (x0 - (Int.toNat x2)) (List.drop (0 + (Int.toNat x2)) x3))))) : Int) ≤ (Nat.cast (x0) : Int))) <|
grd (decide ((Nat.cast (x0) : Int) ≤ ((Nat.cast ((List.length ((List.take (0 + ((Int.toNat x1) - 0)) x3) ++ (List.take (x0 - (Int.toNat x2)) (List.drop (0 + (Int.toNat x2)) x3)) ++ (List.drop ((0 + ((Int.toNat x1) - 0)) + (List.length (List.take (x0 - (Int.toNat x2)) (List.drop (0 + (Int.toNat x2)) x3)))) x3)))) : Int) - 0))) <|
grd (decide (((0 + (((Int.toNat x1) - 0) + (List.length (List.take (x0 - (Int.toNat x2)) (List.drop (0 + (Int.toNat x2)) x3))))) + (x0 - (((Int.toNat x1) - 0) + (List.length (List.take (x0 - (Int.toNat x2)) (List.drop (0 + (Int.toNat x2)) x3)))))) ≤ (List.length ((List.take (0 + ((Int.toNat x1) - 0)) x3) ++ (List.take (x0 - (Int.toNat x2)) (List.drop (0 + (Int.toNat x2)) x3)) ++ (List.drop ((0 + ((Int.toNat x1) - 0)) + (List.length (List.take (x0 - (Int.toNat x2)) (List.drop (0 + (Int.toNat x2)) x3)))) x3))))) <|
K ((((Int.toNat x1) - 0) + (List.length (List.take (x0 - (Int.toNat x2)) (List.drop (0 + (Int.toNat x2)) x3)))), (List.take (0 + (((Int.toNat x1) - 0) + (List.length (List.take (x0 - (Int.toNat x2)) (List.drop (0 + (Int.toNat x2)) x3))))) ((List.take (0 + (((Int.toNat x1) - 0) + (List.length (List.take (x0 - (Int.toNat x2)) (List.drop (0 + (Int.toNat x2)) x3))))) ((List.take (0 + ((Int.toNat x1) - 0)) x3) ++ (List.take (x0 - (Int.toNat x2)) (List.drop (0 + (Int.toNat x2)) x3)) ++ (List.drop ((0 + ((Int.toNat x1) - 0)) + (List.length (List.take (x0 - (Int.toNat x2)) (List.drop (0 + (Int.toNat x2)) x3)))) x3))) ++ List.replicate (x0 - (((Int.toNat x1) - 0) + (List.length (List.take (x0 - (Int.toNat x2)) (List.drop (0 + (Int.toNat x2)) x3))))) (CV.agg [(CV.int .i64 0), (CV.int .i64 0), (CV.slc none []), (CV.int .i64 0), (CV.int .i64 0), (CV.int .i64 0)]) ++ (List.drop ((0 + (((Int.toNat x1) - 0) + (List.length (List.take (x0 - (Int.toNat x2)) (List.drop (0 + (Int.toNat x2)) x3))))) + (x0 - (((Int.toNat x1) - 0) + (List.length (List.take (x0 - (Int.toNat x2)) (List.drop (0 + (Int.toNat x2)) x3)))))) ((List.take (0 + ((Int.toNat x1) - 0)) x3) ++ (List.take (x0 - (Int.toNat x2)) (List.drop (0 + (Int.toNat x2)) x3)) ++ (List.drop ((0 + ((Int.toNat x1) - 0)) + (List.length (List.take (x0 - (Int.toNat x2)) (List.drop (0 + (Int.toNat x2)) x3)))) x3)))))))
else
(bif (x1 == x2) then
K (x0, (List.take (0 + x0) x3))
else
grd (decide (0 ≤ x1)) <|
grd (decide (x1 ≤ ((Nat.cast ((List.length x3)) : Int) - 0))) <|
grd (decide (0 ≤ x2)) <|
grd (decide (x2 ≤ (Nat.cast (x0) : Int))) <|
grd (decide ((Nat.cast (x0) : Int) ≤ (Nat.cast (x0) : Int))) <|
grd (decide (((0 + ((Int.toNat x1) - 0)) + (List.length (List.take (x0 - (Int.toNat x2)) (List.drop (0 + (Int.toNat x2)) x3)))) ≤ (List.length x3))) <|
grd (decide ((Nat.cast ((((Int.toNat x1) - 0) + (List.length (List.take (x0 - (Int.toNat x2)) (List.drop (0 + (Int.toNat x2)) x3))))) : Int) ≤ (Nat.cast (x0) : Int))) <|
grd (decide ((Nat.cast (x0) : Int) ≤ ((Nat.cast ((List.length ((List.take (0 + ((Int.toNat x1) - 0)) x3) ++ (List.take (x0 - (Int.toNat x2)) (List.drop (0 + (Int.toNat x2)) x3)) ++ (List.drop ((0 + ((Int.toNat x1) - 0)) + (List.length (List.take (x0 - (Int.toNat x2)) (List.drop (0 + (Int.toNat x2)) x3)))) x3)))) : Int) - 0))) <|
grd (decide (((0 + (((Int.toNat x1) - 0) + (List.length (List.take (x0 - (Int.toNat x2)) (List.drop (0 + (Int.toNat x2)) x3))))) + (x0 - (((Int.toNat x1) - 0) + (List.length (List.take (x0 - (Int.toNat x2)) (List.drop (0 + (Int.toNat x2)) x3)))))) ≤ (List.length ((List.take (0 + ((Int.toNat x1) - 0)) x3) ++ (List.take (x0 - (Int.toNat x2)) (List.drop (0 + (Int.toNat x2)) x3)) ++ (List.drop ((0 + ((Int.toNat x1) - 0)) + (List.length (List.take (x0 - (Int.toNat x2)) (List.drop (0 + (Int.toNat x2)) x3)))) x3))))) <|
K ((((Int.toNat x1) - 0) + (List.length (List.take (x0 - (Int.toNat x2)) (List.drop (0 + (Int.toNat x2)) x3)))), (List.take (0 + (((Int.toNat x1) - 0) + (List.length (List.take (x0 - (Int.toNat x2)) (List.drop (0 + (Int.toNat x2)) x3))))) ((List.take (0 + (((Int.toNat x1) - 0) + (List.length (List.take (x0 - (Int.toNat x2)) (List.drop (0 + (Int.toNat x2)) x3))))) ((List.take (0 + ((Int.toNat x1) - 0)) x3) ++ (List.take (x0 - (Int.toNat x2)) (List.drop (0 + (Int.toNat x2)) x3)) ++ (List.drop ((0 + ((Int.toNat x1) - 0)) + (List.length (List.take (x0 - (Int.toNat x2)) (List.drop (0 + (Int.toNat x2)) x3)))) x3))) ++ List.replicate (x0 - (((Int.toNat x1) - 0) + (List.length (List.take (x0 - (Int.toNat x2)) (List.drop (0 + (Int.toNat x2)) x3))))) (CV.agg [(CV.int .i64 0), (CV.int .i64 0), (CV.slc none []), (CV.int .i64 0), (CV.int .i64 0), (CV.int .i64 0)]) ++ (List.drop ((0 + (((Int.toNat x1) - 0) + (List.length (List.take (x0 - (Int.toNat x2)) (List.drop (0 + (Int.toNat x2)) x3))))) + (x0 - (((Int.toNat x1) - 0) + (List.length (List.take (x0 - (Int.toNat x2)) (List.drop (0 + (Int.toNat x2)) x3)))))) ((List.take (0 + ((Int.toNat x1) - 0)) x3) ++ (List.take (x0 - (Int.toNat x2)) (List.drop (0 + (Int.toNat x2)) x3)) ++ (List.drop ((0 + ((Int.toNat x1) - 0)) + (List.length (List.take (x0 - (Int.toNat x2)) (List.drop (0 + (Int.toNat x2)) x3)))) x3))))))))
/-- "slices.Delete[[]outpost/exch.exchange,outpost/exch.exchange]" -/
def f42_A (k : Nat) : f42_R := fun X K x0 x1 x2 x3 => f42_T k K  x0 x1 x2 x3
set_option maxRecDepth 100000 in
theorem f42_ev' {X : Type} (k : Nat) (K : Out → Option X) (x0 : Nat) (x1 : Int) (x2 : Int) (x3 : List CV) : evFn (f42_cx) [] k Try.f42.ntmps Try.f42.results.toList (Try.f42.body.getD .skip) [(.osl [1000] (some 6) 0 x0), (.v (CV.int .i64 x1)), (.v (CV.int .i64 x2))] [([1000], (.row false (some 6) x3))] K = f42_T k (fun u => K (f42_out u)) x0 x1 x2 x3 := by kernel_rfl
theorem f42_ev {X : Type} (k : Nat) (K : Out → Option X) (x0 : Nat) (x1 : Int) (x2 : Int) (x3 : List CV) : evFn (f42_cx) [] k Try.f42.ntmps Try.f42.results.toList (Try.f42.body.getD .skip) [(.osl [1000] (some 6) 0 x0), (.v (CV.int .i64 x1)), (.v (CV.int .i64 x2))] [([1000], (.row false (some 6) x3))] K = f42_A k X (fun u => K (f42_out u)) x0 x1 x2 x3 := (f42_ev' k K x0 x1 x2 x3).trans rfl
theorem f42_okA (k : Nat) : AnsOk Try.prog 42 (f42_cOf (f42_A k)) := by
  intro X xs ns K x h
  unfold f42_cOf at h ⊢
  split at h
  · exact ans_main S (f42_Cok) Try.func42 (ent_of Try.func42 (by kernel_rfl) rfl) rfl (fun X K => f42_ev k K _ _ _ _) h
  · cases h
/-- "slices.Delete[[]outpost/exch.exchange,outpost/exch.exchange]" -/
def f42 {X : Type} (k : Nat) (K : Nat × (List CV) → Option X) (x0 : Nat) (x1 : Int) (x2 : Int) (x3 : List CV) : Option X := f42_A k X K x0 x1 x2 x3
theorem f42_ok (k : Nat) : AnsOk Try.prog 42 (f42_cOf (fun X => @f42 X k)) := f42_okA k
abbrev f31_R : Type 1 := (X : Type) → (Int × Int × Nat × Bool × Nat × Int × (List CV) × (List CV) → Option X) → Int → Nat → Int → (List CV) → Option X
def f31_out (u : Int × Int × Nat × Bool × Nat × Int × (List CV) × (List CV)) : Out := ⟨(.agg [(.v (CV.int .i64 u.1)), (.v (CV.int .i64 u.2.1)), (.osl [2, 2000] none 0 u.2.2.1), (.v (CV.bool u.2.2.2.1))]), [([1000], (.obj [(.osl [0, 1000] (some 6) 0 u.2.2.2.2.1), (.v (CV.int .i64 u.2.2.2.2.2.1))])), ([0, 1000], (.row false (some 6) u.2.2.2.2.2.2.1)), ([2, 2000], (.row false none u.2.2.2.2.2.2.2))]⟩
def f31_cOf (R : f31_R) : FnC := fun X xs ns K => match xs, ns with
  | [(.ptr [1000] 0 0 0), (.v (CV.int .i64 x0))], [([1000], (.obj [(.osl [0, 1000] (some 6) 0 x1), (.v (CV.int .i64 x2))])), ([0, 1000], (.row false (some 6) x3))] => R X (fun u => K (f31_out u)) x0 x1 x2 x3
  | _, _ => none
def f31_plan : Nat → Option (List Nat × List Wk)
  | 0 => some ([0, 1], [])
  | 1 => some ([0, 1, 4], [])
  | 2 => some ([0, 1, 4, 5], [])
  | 3 => some ([0, 1, 4, 5, 6], [])
  | 4 => some ([0, 1, 4, 6], [])
  | 5 => some ([0, 1, 4, 6], [])
  | 6 => some ([4, 6], [])
  | 7 => some ([4, 5, 6], [])
  | 8 => some ([4, 5, 6], [])
  | 9 => some ([4, 5, 6], [])
  | 10 => some ([4, 6], [])
  | _ => none
def f31_C (R_f29 : f29_R) (R_f42 : f42_R) : Fns := (orC 29 (f29_cOf R_f29) (orC 42 (f42_cOf R_f42) noC))
theorem f31_Cok (R_f29 : f29_R) (R_f42 : f42_R) (hR_f29 : AnsOk Try.prog 29 (f29_cOf R_f29)) (hR_f42 : AnsOk Try.prog 42 (f42_cOf R_f42)) : CsOk Try.prog (f31_C R_f29 R_f42) := (orC_ok hR_f29 (orC_ok hR_f42 noC_ok))
def f31_cx (R_f29 : f29_R) (R_f42 : f42_R) (hR_f29 : AnsOk Try.prog 29 (f29_cOf R_f29)) (hR_f42 : AnsOk Try.prog 42 (f42_cOf R_f42)) : Cx := mkCx (tabOf rows) (f31_C R_f29 R_f42) md (cmpIn cmps) f31_plan (f31_Cok R_f29 R_f42 hR_f29 hR_f42)
def f31_T {X : Type} (R_f29 : f29_R) (R_f42 : f42_R) (k : Nat) (K : Int × Int × Nat × Bool × Nat × Int × (List CV) × (List CV) → Option X)  (x0 : Int) (x1 : Nat) (x2 : Int) (x3 : List CV) : Option X :=
grd (decide (0 ≤ x0)) <|
grd (decide (x0 < (Nat.cast (x1) : Int))) <|
Option.bind (x3)[(0 + (Int.toNat x0))]? fun e1 =>
Option.bind (CV.cell e1 0) fun c2 =>
grd (CV.isI .i64 c2) <|
Option.bind (x3)[(0 + (Int.toNat x0))]? fun e3 =>
Option.bind (CV.cell e3 1) fun c4 =>
grd (CV.isI .i64 c4) <|
Option.bind (x3)[(0 + (Int.toNat x0))]? fun e5 =>
Option.bind (CV.cell e5 2) fun c6 =>
grd (CV.isL none c6) <|
R_f29 _ (fun u7 =>
Option.bind (x3)[(0 + (Int.toNat x0))]? fun e11 =>
Option.bind (CV.cell e11 5) fun c12 =>
grd (CV.isI .i64 c12) <|
(bif ((CV.toI c12) == 0) then
R_f42 _ (fun u13 =>
K ((CV.toI c2), (CV.toI c4), (List.length u7), true, u13.1, x2, (List.take (0 + u13.1) u13.2), (List.take (0 + (List.length u7)) u7))) (x1) (x0) ((IntKind.wrap .i64 (x0 + 1))) (x3)
else
Option.bind (x3)[(0 + (Int.toNat x0))]? fun e14 =>
Option.bind (CV.cell e14 5) fun c15 =>
grd (CV.isI .i64 c15) <|
Option.bind (x3)[(0 + (Int.toNat x0))]? fun e16 =>
(setCell e16 5 (CV.int .i64 (IntKind.wrap .i64 ((CV.toI c15) - 1))) fun d17 =>
Option.bind ((List.set x3 (0 + (Int.toNat x0)) d17))[(0 + (Int.toNat x0))]? fun e18 =>
Option.bind (CV.cell e18 4) fun c19 =>
grd (CV.isI .i64 c19) <|
Option.bind ((List.set x3 (0 + (Int.toNat x0)) d17))[(0 + (Int.toNat x0))]? fun e20 =>
(setCell e20 4 (CV.int .i64 (IntKind.wrap .i64 ((CV.toI c19) * 2))) fun d21 =>
Option.bind ((List.set (List.set x3 (0 + (Int.toNat x0)) d17) (0 + (Int.toNat x0)) d21))[(0 + (Int.toNat x0))]? fun e22 =>
Option.bind (CV.cell e22 3) fun c23 =>
grd (CV.isI .i64 c23) <|
Option.bind ((List.set (List.set x3 (0 + (Int.toNat x0)) d17) (0 + (Int.toNat x0)) d21))[(0 + (Int.toNat x0))]? fun e24 =>
Option.bind (CV.cell e24 4) fun c25 =>
grd (CV.isI .i64 c25) <|
Option.bind ((List.set (List.set x3 (0 + (Int.toNat x0)) d17) (0 + (Int.toNat x0)) d21))[(0 + (Int.toNat x0))]? fun e26 =>
(setCell e26 3 (CV.int .i64 (if 1099511627776 < (IntKind.wrap .i64 ((CV.toI c23) + (CV.toI c25))) then 1099511627776 else (IntKind.wrap .i64 ((CV.toI c23) + (CV.toI c25))))) fun d27 =>
K ((CV.toI c2), (CV.toI c4), (List.length u7), false, x1, x2, (List.take (0 + x1) (List.set (List.set (List.set x3 (0 + (Int.toNat x0)) d17) (0 + (Int.toNat x0)) d21) (0 + (Int.toNat x0)) d27)), (List.take (0 + (List.length u7)) u7))))))) ((CV.toL c6))
/-- "(*outpost/exch.Table).up" -/
def f31_A (R_f29 : f29_R) (R_f42 : f42_R) (k : Nat) : f31_R := fun X K x0 x1 x2 x3 => f31_T R_f29 R_f42 k K  x0 x1 x2 x3
set_option maxRecDepth 100000 in
theorem f31_ev' {X : Type} (R_f29 : f29_R) (R_f42 : f42_R) (hR_f29 : AnsOk Try.prog 29 (f29_cOf R_f29)) (hR_f42 : AnsOk Try.prog 42 (f42_cOf R_f42)) (k : Nat) (K : Out → Option X) (x0 : Int) (x1 : Nat) (x2 : Int) (x3 : List CV) : evFn (f31_cx R_f29 R_f42 hR_f29 hR_f42) [] k Try.f31.ntmps Try.f31.results.toList (Try.f31.body.getD .skip) [(.ptr [1000] 0 0 0), (.v (CV.int .i64 x0))] [([1000], (.obj [(.osl [0, 1000] (some 6) 0 x1), (.v (CV.int .i64 x2))])), ([0, 1000], (.row false (some 6) x3))] K = f31_T R_f29 R_f42 k (fun u => K (f31_out u)) x0 x1 x2 x3 := by kernel_rfl
theorem f31_ev {X : Type} (R_f29 : f29_R) (R_f42 : f42_R) (hR_f29 : AnsOk Try.prog 29 (f29_cOf R_f29)) (hR_f42 : AnsOk Try.prog 42 (f42_cOf R_f42)) (k : Nat) (K : Out → Option X) (x0 : Int) (x1 : Nat) (x2 : Int) (x3 : List CV) : evFn (f31_cx R_f29 R_f42 hR_f29 hR_f42) [] k Try.f31.ntmps Try.f31.results.toList (Try.f31.body.getD .skip) [(.ptr [1000] 0 0 0), (.v (CV.int .i64 x0))] [([1000], (.obj [(.osl [0, 1000] (some 6) 0 x1), (.v (CV.int .i64 x2))])), ([0, 1000], (.row false (some 6) x3))] K = f31_A R_f29 R_f42 k X (fun u => K (f31_out u)) x0 x1 x2 x3 := (f31_ev' R_f29 R_f42 hR_f29 hR_f42 k K x0 x1 x2 x3).trans rfl
theorem f31_okA (R_f29 : f29_R) (R_f42 : f42_R) (hR_f29 : AnsOk Try.prog 29 (f29_cOf R_f29)) (hR_f42 : AnsOk Try.prog 42 (f42_cOf R_f42)) (k : Nat) : AnsOk Try.prog 31 (f31_cOf (f31_A R_f29 R_f42 k)) := by
  intro X xs ns K x h
  unfold f31_cOf at h ⊢
  split at h
  · exact ans_main S (f31_Cok R_f29 R_f42 hR_f29 hR_f42) Try.func31 (ent_of Try.func31 (by kernel_rfl) rfl) rfl (fun X K => f31_ev R_f29 R_f42 hR_f29 hR_f42 k K _ _ _ _) h
  · cases h
/-- "(*outpost/exch.Table).up" -/
def f31 {X : Type} (k : Nat) (K : Int × Int × Nat × Bool × Nat × Int × (List CV) × (List CV) → Option X) (x0 : Int) (x1 : Nat) (x2 : Int) (x3 : List CV) : Option X := f31_A (fun X => @f29 X k) (fun X => @f42 X k) k X K x0 x1 x2 x3
theorem f31_ok (k : Nat) : AnsOk Try.prog 31 (f31_cOf (fun X => @f31 X k)) := f31_okA (fun X => @f29 X k) (fun X => @f42 X k) (f29_ok k) (f42_ok k) k
abbrev f12_R : Type 1 := (X : Type) → (Nat × Nat × Int × (List CV) × (List CV) → Option X) → Int → Nat → Int → (List CV) → Option X
def f12_out (u : Nat × Nat × Int × (List CV) × (List CV)) : Out := ⟨(.osl [2000] (some 4) 0 u.1), [([1000], (.obj [(.osl [0, 1000] (some 6) 0 u.2.1), (.v (CV.int .i64 u.2.2.1))])), ([0, 1000], (.row false (some 6) u.2.2.2.1)), ([2000], (.row false (some 4) u.2.2.2.2))]⟩
def f12_cOf (R : f12_R) : FnC := fun X xs ns K => match xs, ns with
  | [(.ptr [1000] 0 0 0), (.v (CV.int .i64 x0))], [([1000], (.obj [(.osl [0, 1000] (some 6) 0 x1), (.v (CV.int .i64 x2))])), ([0, 1000], (.row false (some 6) x3))] => R X (fun u => K (f12_out u)) x0 x1 x2 x3
  | _, _ => none
def f12_plan : Nat → Option (List Nat × List Wk)
  | 0 => some ([0, 1], [])
  | 1 => some ([0, 1], [])
  | 2 => some ([0], [])
  | 3 => some ([0, 5], [⟨5, [], some [5]⟩])
  | 4 => some ([0, 5, 6], [])
  | 5 => some ([5], [])
  | 6 => some ([0, 5, 6], [])
  | _ => none
def f12_C (R_f27 : f27_R) (R_f30 : f30_R) (R_f31 : f31_R) : Fns := (orC 27 (f27_cOf R_f27) (orC 30 (f30_cOf R_f30) (orC 31 (f31_cOf R_f31) noC)))
theorem f12_Cok (R_f27 : f27_R) (R_f30 : f30_R) (R_f31 : f31_R) (hR_f27 : AnsOk Try.prog 27 (f27_cOf R_f27)) (hR_f30 : AnsOk Try.prog 30 (f30_cOf R_f30)) (hR_f31 : AnsOk Try.prog 31 (f31_cOf R_f31)) : CsOk Try.prog (f12_C R_f27 R_f30 R_f31) := (orC_ok hR_f27 (orC_ok hR_f30 (orC_ok hR_f31 noC_ok)))
def f12_cx (R_f27 : f27_R) (R_f30 : f30_R) (R_f31 : f31_R) (hR_f27 : AnsOk Try.prog 27 (f27_cOf R_f27)) (hR_f30 : AnsOk Try.prog 30 (f30_cOf R_f30)) (hR_f31 : AnsOk Try.prog 31 (f31_cOf R_f31)) : Cx := mkCx (tabOf rows) (f12_C R_f27 R_f30 R_f31) md (cmpIn cmps) f12_plan (f12_Cok R_f27 R_f30 R_f31 hR_f27 hR_f30 hR_f31)
def f12_S1 (v : Nat × (List CV) × Nat × Int × (List CV)) : St := ⟨[(.ptr [1000] 0 0 0), .undef, .undef, .undef, .undef, (.osl [5] (some 4) 0 v.1), .undef, .undef, .undef, .undef, .undef, .undef, .undef, .undef, .undef, .undef, .undef, .undef, .undef, .undef, .undef, .undef, .undef, .undef, .undef, .undef, .undef, .undef, .undef, .undef, .undef, .undef, .undef, .undef, .undef, .undef], [([5], (.row false (some 4) v.2.1)), ([1000], (.obj [(.osl [0, 1000] (some 6) 0 v.2.2.1), (.v (CV.int .i64 v.2.2.2.1))])), ([0, 1000], (.row false (some 6) v.2.2.2.2))]⟩
def f12_T1 {X : Type} (R_f27 : f27_R) (R_f30 : f30_R) (R_f31 : f31_R) (k : Nat) (K : Nat × Nat × Int × (List CV) × (List CV) → Option X)   (rec1 : Nat × (List CV) × Nat × Int × (List CV) → Option X) (v4_1 : Nat × (List CV) × Nat × Int × (List CV)) : Option X :=
R_f30 _ (fun u9 =>
(bif (decide (u9.1 < 0)) then
K (v4_1.1, u9.2.1, u9.2.2.1, (List.take (0 + u9.2.1) u9.2.2.2), (List.take (0 + v4_1.1) v4_1.2.1))
else
grd (decide (0 ≤ u9.1)) <|
grd (decide (u9.1 < (Nat.cast (u9.2.1) : Int))) <|
Option.bind (u9.2.2.2)[(0 + (Int.toNat u9.1))]? fun e12 =>
Option.bind (CV.cell e12 3) fun c13 =>
grd (CV.isI .i64 c13) <|
(bif (decide ((CV.toI c13) > u9.2.2.1)) then
K (v4_1.1, u9.2.1, u9.2.2.1, (List.take (0 + u9.2.1) u9.2.2.2), (List.take (0 + v4_1.1) v4_1.2.1))
else
R_f31 _ (fun u14 =>
grd (decide ((v4_1.1 + (List.length (List.take 1 (List.drop 0 [(CV.agg [(CV.int .i64 u14.1), (CV.int .i64 u14.2.1), (CV.slc none (List.take u14.2.2.1 (List.drop 0 u14.2.2.2.2.2.2.2))), (CV.bool u14.2.2.2.1)])])))) * 48 ≤ 140737488355328)) <|
rec1 ((v4_1.1 + (List.length (List.take 1 (List.drop 0 [(CV.agg [(CV.int .i64 u14.1), (CV.int .i64 u14.2.1), (CV.slc none (List.take u14.2.2.1 (List.drop 0 u14.2.2.2.2.2.2.2))), (CV.bool u14.2.2.2.1)])])))), ((List.take v4_1.1 v4_1.2.1) ++ (List.take 1 (List.drop 0 [(CV.agg [(CV.int .i64 u14.1), (CV.int .i64 u14.2.1), (CV.slc none (List.take u14.2.2.1 (List.drop 0 u14.2.2.2.2.2.2.2))), (CV.bool u14.2.2.2.1)])]))), u14.2.2.2.2.1, u14.2.2.2.2.2.1, u14.2.2.2.2.2.2.1)) (u9.1) (u9.2.1) (u9.2.2.1) (u9.2.2.2)))) (v4_1.2.2.1) (v4_1.2.2.2.1) (v4_1.2.2.2.2)
def f12_L1 {X : Type} (R_f27 : f27_R) (R_f30 : f30_R) (R_f31 : f31_R) (k : Nat) (K : Nat × Nat × Int × (List CV) × (List CV) → Option X)  (rec1 : Nat × (List CV) × Nat × Int × (List CV) → Option X) (v : Nat × (List CV) × Nat × Int × (List CV)) : Option X := f12_T1 R_f27 R_f30 R_f31 k K   rec1 v
set_option maxRecDepth 100000 in
theorem f12_L1_ev {X : Type} (R_f27 : f27_R) (R_f30 : f30_R) (R_f31 : f31_R) (hR_f27 : AnsOk Try.prog 27 (f27_cOf R_f27)) (hR_f30 : AnsOk Try.prog 30 (f30_cOf R_f30)) (hR_f31 : AnsOk Try.prog 31 (f31_cOf R_f31)) (k : Nat) (K : Out → Option X)  (r1 : St → Option X) (v : Nat × (List CV) × Nat × Int × (List CV)) : loopB (f12_cx R_f27 R_f30 R_f31 hR_f27 hR_f30 hR_f31) k [.r, .r, .r, .b] (Try.f12.body.getD .skip) (retK (f12_cx R_f27 R_f30 R_f31 hR_f27 hR_f30 hR_f31) [] Try.f12.results.toList K) [] r1 (f12_S1 v) = f12_T1 R_f27 R_f30 R_f31 k (fun u => K (f12_out u))   (fun v => r1 (f12_S1 v)) v := by kernel_rfl
theorem f12_L1_it {X : Type} (R_f27 : f27_R) (R_f30 : f30_R) (R_f31 : f31_R) (hR_f27 : AnsOk Try.prog 27 (f27_cOf R_f27)) (hR_f30 : AnsOk Try.prog 30 (f30_cOf R_f30)) (hR_f31 : AnsOk Try.prog 31 (f31_cOf R_f31)) (k : Nat) (K : Out → Option X)  : (fun v => iter (loopB (f12_cx R_f27 R_f30 R_f31 hR_f27 hR_f30 hR_f31) k [.r, .r, .r, .b] (Try.f12.body.getD .skip) (retK (f12_cx R_f27 R_f30 R_f31 hR_f27 hR_f30 hR_f31) [] Try.f12.results.toList K) []) k (f12_S1 v)) = iterV (f12_L1 R_f27 R_f30 R_f31 k (fun u => K (f12_out u)) ) k :=
  iter_map (fun r1 v => (f12_L1_ev R_f27 R_f30 R_f31 hR_f27 hR_f30 hR_f31 k K  r1 v).trans rfl) k
def f12_T {X : Type} (R_f27 : f27_R) (R_f30 : f30_R) (R_f31 : f31_R) (k : Nat) (K : Nat × Nat × Int × (List CV) × (List CV) → Option X) (loop1 : Nat × (List CV) × Nat × Int × (List CV) → Option X) (x0 : Int) (x1 : Nat) (x2 : Int) (x3 : List CV) : Option X :=
R_f27 _ (fun u1 =>
loop1 (0, [], u1.1, u1.2.1, u1.2.2)) (x0) (x1) (x2) (x3)
/-- "(*outpost/exch.Table).Pass" -/
def f12_A (R_f27 : f27_R) (R_f30 : f30_R) (R_f31 : f31_R) (k : Nat) : f12_R := fun X K x0 x1 x2 x3 => f12_T R_f27 R_f30 R_f31 k K (iterV (f12_L1 R_f27 R_f30 R_f31 k K) k) x0 x1 x2 x3
set_option maxRecDepth 100000 in
theorem f12_ev' {X : Type} (R_f27 : f27_R) (R_f30 : f30_R) (R_f31 : f31_R) (hR_f27 : AnsOk Try.prog 27 (f27_cOf R_f27)) (hR_f30 : AnsOk Try.prog 30 (f30_cOf R_f30)) (hR_f31 : AnsOk Try.prog 31 (f31_cOf R_f31)) (k : Nat) (K : Out → Option X) (x0 : Int) (x1 : Nat) (x2 : Int) (x3 : List CV) : evFn (f12_cx R_f27 R_f30 R_f31 hR_f27 hR_f30 hR_f31) [] k Try.f12.ntmps Try.f12.results.toList (Try.f12.body.getD .skip) [(.ptr [1000] 0 0 0), (.v (CV.int .i64 x0))] [([1000], (.obj [(.osl [0, 1000] (some 6) 0 x1), (.v (CV.int .i64 x2))])), ([0, 1000], (.row false (some 6) x3))] K = f12_T R_f27 R_f30 R_f31 k (fun u => K (f12_out u)) (fun v => iter (loopB (f12_cx R_f27 R_f30 R_f31 hR_f27 hR_f30 hR_f31) k [.r, .r, .r, .b] (Try.f12.body.getD .skip) (retK (f12_cx R_f27 R_f30 R_f31 hR_f27 hR_f30 hR_f31) [] Try.f12.results.toList K) []) k (f12_S1 v)) x0 x1 x2 x3 := by kernel_rfl
theorem f12_ev {X : Type} (R_f27 : f27_R) (R_f30 : f30_R) (R_f31 : f31_R) (hR_f27 : AnsOk Try.prog 27 (f27_cOf R_f27)) (hR_f30 : AnsOk Try.prog 30 (f30_cOf R_f30)) (hR_f31 : AnsOk Try.prog 31 (f31_cOf R_f31)) (k : Nat) (K : Out → Option X) (x0 : Int) (x1 : Nat) (x2 : Int) (x3 : List CV) : evFn (f12_cx R_f27 R_f30 R_f31 hR_f27 hR_f30 hR_f31) [] k Try.f12.ntmps Try.f12.results.toList (Try.f12.body.getD .skip) [(.ptr [1000] 0 0 0), (.v (CV.int .i64 x0))] [([1000], (.obj [(.osl [0, 1000] (some 6) 0 x1), (.v (CV.int .i64 x2))])), ([0, 1000], (.row false (some 6) x3))] K = f12_A R_f27 R_f30 R_f31 k X (fun u => K (f12_out u)) x0 x1 x2 x3 := (f12_ev' R_f27 R_f30 R_f31 hR_f27 hR_f30 hR_f31 k K x0 x1 x2 x3).trans (by rw [f12_L1_it R_f27 R_f30 R_f31 hR_f27 hR_f30 hR_f31 k K]; rfl)
theorem f12_okA (R_f27 : f27_R) (R_f30 : f30_R) (R_f31 : f31_R) (hR_f27 : AnsOk Try.prog 27 (f27_cOf R_f27)) (hR_f30 : AnsOk Try.prog 30 (f30_cOf R_f30)) (hR_f31 : AnsOk Try.prog 31 (f31_cOf R_f31)) (k : Nat) : AnsOk Try.prog 12 (f12_cOf (f12_A R_f27 R_f30 R_f31 k)) := by
  intro X xs ns K x h
  unfold f12_cOf at h ⊢
  split at h
  · exact ans_main S (f12_Cok R_f27 R_f30 R_f31 hR_f27 hR_f30 hR_f31) Try.func12 (ent_of Try.func12 (by kernel_rfl) rfl) rfl (fun X K => f12_ev R_f27 R_f30 R_f31 hR_f27 hR_f30 hR_f31 k K _ _ _ _) h
  · cases h
/-- "(*outpost/exch.Table).Pass" -/
def f12 {X : Type} (k : Nat) (K : Nat × Nat × Int × (List CV) × (List CV) → Option X) (x0 : Int) (x1 : Nat) (x2 : Int) (x3 : List CV) : Option X := f12_A (fun X => @f27 X k) (fun X => @f30 X k) (fun X => @f31 X k) k X K x0 x1 x2 x3
theorem f12_ok (k : Nat) : AnsOk Try.prog 12 (f12_cOf (fun X => @f12 X k)) := f12_okA (fun X => @f27 X k) (fun X => @f30 X k) (fun X => @f31 X k) (f27_ok k) (f30_ok k) (f31_ok k) k
abbrev f18_R : Type 1 := (X : Type) → (Bool × Nat × Int × (List CV) → Option X) → Int → Int → Nat → Int → (List CV) → Option X
def f18_out (u : Bool × Nat × Int × (List CV)) : Out := ⟨(.v (CV.bool u.1)), [([1000], (.obj [(.osl [0, 1000] (some 6) 0 u.2.1), (.v (CV.int .i64 u.2.2.1))])), ([0, 1000], (.row false (some 6) u.2.2.2))]⟩
def f18_cOf (R : f18_R) : FnC := fun X xs ns K => match xs, ns with
  | [(.ptr [1000] 0 0 0), (.v (CV.int .i64 x0)), (.v (CV.int .i64 x1))], [([1000], (.obj [(.osl [0, 1000] (some 6) 0 x2), (.v (CV.int .i64 x3))])), ([0, 1000], (.row false (some 6) x4))] => R X (fun u => K (f18_out u)) x0 x1 x2 x3 x4
  | _, _ => none
def f18_plan : Nat → Option (List Nat × List Wk)
  | 0 => some ([0, 1, 2], [])
  | 1 => some ([0, 1, 2], [])
  | 2 => some ([0, 7], [])
  | 3 => some ([], [])
  | 4 => some ([0, 7], [])
  | 5 => some ([], [])
  | _ => none
def f18_C (R_f41 : f41_R) (R_f42 : f42_R) : Fns := (orC 41 (f41_cOf R_f41) (orC 42 (f42_cOf R_f42) noC))
theorem f18_Cok (R_f41 : f41_R) (R_f42 : f42_R) (hR_f41 : AnsOk Try.prog 41 (f41_cOf R_f41)) (hR_f42 : AnsOk Try.prog 42 (f42_cOf R_f42)) : CsOk Try.prog (f18_C R_f41 R_f42) := (orC_ok hR_f41 (orC_ok hR_f42 noC_ok))
def f18_cx (R_f41 : f41_R) (R_f42 : f42_R) (hR_f41 : AnsOk Try.prog 41 (f41_cOf R_f41)) (hR_f42 : AnsOk Try.prog 42 (f42_cOf R_f42)) : Cx := mkCx (tabOf rows) (f18_C R_f41 R_f42) md (cmpIn cmps) f18_plan (f18_Cok R_f41 R_f42 hR_f41 hR_f42)
def f18_T {X : Type} (R_f41 : f41_R) (R_f42 : f42_R) (k : Nat) (K : Bool × Nat × Int × (List CV) → Option X)  (x0 : Int) (x1 : Int) (x2 : Nat) (x3 : Int) (x4 : List CV) : Option X :=
R_f41 _ (fun u1 =>
(bif (decide (u1.1 < 0)) then
K (false, u1.2.1, u1.2.2.1, (List.take (0 + u1.2.1) u1.2.2.2))
else
R_f42 _ (fun u2 =>
K (true, u2.1, u1.2.2.1, (List.take (0 + u2.1) u2.2))) (u1.2.1) (u1.1) ((IntKind.wrap .i64 (u1.1 + 1))) (u1.2.2.2))) (x0) (x1) (x2) (x3) (x4)
/-- "(*outpost/exch.Table).Stop" -/
def f18_A (R_f41 : f41_R) (R_f42 : f42_R) (k : Nat) : f18_R := fun X K x0 x1 x2 x3 x4 => f18_T R_f41 R_f42 k K  x0 x1 x2 x3 x4
set_option maxRecDepth 100000 in
theorem f18_ev' {X : Type} (R_f41 : f41_R) (R_f42 : f42_R) (hR_f41 : AnsOk Try.prog 41 (f41_cOf R_f41)) (hR_f42 : AnsOk Try.prog 42 (f42_cOf R_f42)) (k : Nat) (K : Out → Option X) (x0 : Int) (x1 : Int) (x2 : Nat) (x3 : Int) (x4 : List CV) : evFn (f18_cx R_f41 R_f42 hR_f41 hR_f42) [] k Try.f18.ntmps Try.f18.results.toList (Try.f18.body.getD .skip) [(.ptr [1000] 0 0 0), (.v (CV.int .i64 x0)), (.v (CV.int .i64 x1))] [([1000], (.obj [(.osl [0, 1000] (some 6) 0 x2), (.v (CV.int .i64 x3))])), ([0, 1000], (.row false (some 6) x4))] K = f18_T R_f41 R_f42 k (fun u => K (f18_out u)) x0 x1 x2 x3 x4 := by kernel_rfl
theorem f18_ev {X : Type} (R_f41 : f41_R) (R_f42 : f42_R) (hR_f41 : AnsOk Try.prog 41 (f41_cOf R_f41)) (hR_f42 : AnsOk Try.prog 42 (f42_cOf R_f42)) (k : Nat) (K : Out → Option X) (x0 : Int) (x1 : Int) (x2 : Nat) (x3 : Int) (x4 : List CV) : evFn (f18_cx R_f41 R_f42 hR_f41 hR_f42) [] k Try.f18.ntmps Try.f18.results.toList (Try.f18.body.getD .skip) [(.ptr [1000] 0 0 0), (.v (CV.int .i64 x0)), (.v (CV.int .i64 x1))] [([1000], (.obj [(.osl [0, 1000] (some 6) 0 x2), (.v (CV.int .i64 x3))])), ([0, 1000], (.row false (some 6) x4))] K = f18_A R_f41 R_f42 k X (fun u => K (f18_out u)) x0 x1 x2 x3 x4 := (f18_ev' R_f41 R_f42 hR_f41 hR_f42 k K x0 x1 x2 x3 x4).trans rfl
theorem f18_okA (R_f41 : f41_R) (R_f42 : f42_R) (hR_f41 : AnsOk Try.prog 41 (f41_cOf R_f41)) (hR_f42 : AnsOk Try.prog 42 (f42_cOf R_f42)) (k : Nat) : AnsOk Try.prog 18 (f18_cOf (f18_A R_f41 R_f42 k)) := by
  intro X xs ns K x h
  unfold f18_cOf at h ⊢
  split at h
  · exact ans_main S (f18_Cok R_f41 R_f42 hR_f41 hR_f42) Try.func18 (ent_of Try.func18 (by kernel_rfl) rfl) rfl (fun X K => f18_ev R_f41 R_f42 hR_f41 hR_f42 k K _ _ _ _ _) h
  · cases h
/-- "(*outpost/exch.Table).Stop" -/
def f18 {X : Type} (k : Nat) (K : Bool × Nat × Int × (List CV) → Option X) (x0 : Int) (x1 : Int) (x2 : Nat) (x3 : Int) (x4 : List CV) : Option X := f18_A (fun X => @f41 X k) (fun X => @f42 X k) k X K x0 x1 x2 x3 x4
theorem f18_ok (k : Nat) : AnsOk Try.prog 18 (f18_cOf (fun X => @f18 X k)) := f18_okA (fun X => @f41 X k) (fun X => @f42 X k) (f41_ok k) (f42_ok k) k
abbrev f3_R : Type 1 := (X : Type) → (Bool → Option X) → (List CV) → (List CV) → Int → Option X
def f3_out (u : Bool) : Out := ⟨(.v (CV.bool u)), []⟩
def f3_cOf (R : f3_R) : FnC := fun X xs ns K => match xs, ns with
  | [(.sl true (some 6) x0), (.sl true none x1), (.v (CV.int .i64 x2))], [] => R X (fun u => K (f3_out u)) x0 x1 x2
  | _, _ => none
def f3_plan : Nat → Option (List Nat × List Wk)
  | 0 => some ([0, 1, 2], [])
  | 1 => some ([0, 1, 2], [])
  | 2 => some ([], [])
  | 3 => some ([0, 1, 2], [])
  | 4 => some ([], [])
  | 5 => some ([0, 1, 2], [])
  | 6 => some ([0, 1, 2, 7, 8], [])
  | 7 => some ([0, 1, 2, 7, 8, 9, 10, 11], [])
  | 8 => some ([1, 2, 7, 8, 9, 10, 11, 39, 40, 41], [])
  | 9 => some ([1, 2, 7, 8, 9, 10, 11, 39, 40, 41], [])
  | 10 => some ([1, 2, 7, 8, 9, 10, 11, 12, 13, 39, 40, 41], [])
  | 11 => some ([], [])
  | 12 => some ([1, 2, 7, 8, 9, 10, 11, 12, 13, 39, 40, 41], [])
  | 13 => some ([1, 2, 7, 8, 9, 10, 11, 12, 13, 39, 40, 41], [])
  | 14 => some ([1, 2, 7, 8, 9, 10, 11, 12, 13, 14, 15, 39, 40, 41], [])
  | 15 => some ([1, 2, 7, 8, 9, 10, 11, 12, 14, 39, 40, 41], [])
  | 16 => some ([1, 2, 7, 8, 9, 10, 11, 12, 14, 39, 40, 41], [])
  | 17 => some ([], [])
  | 18 => some ([1, 2, 7, 8, 9, 10, 11, 12, 14, 39, 40, 41], [])
  | 19 => some ([1, 2, 7, 8, 9, 10, 11, 12, 14, 16, 39, 40, 41], [])
  | 20 => some ([1, 2, 7, 8, 9, 10, 11, 12, 14, 39, 40, 41], [])
  | 21 => some ([1, 2, 7, 8, 9, 10, 11, 12, 14, 16, 39, 40, 41], [])
  | 22 => some ([1, 2, 7, 8, 9, 10, 11, 12, 14, 16, 17, 18, 39, 40, 41], [])
  | 23 => some ([1, 2, 7, 8, 9, 10, 11, 12, 14, 16, 17, 18, 19, 39, 40, 41], [⟨14, [], none⟩])
  | 24 => some ([1, 2, 7, 8, 9, 10, 11, 12, 14, 16, 17, 18, 19, 39, 40, 41], [])
  | 25 => some ([1, 2, 7, 8, 9, 10, 11, 12, 14, 16, 17, 18, 19, 39, 40, 41], [])
  | 26 => some ([1, 2, 7, 8, 10, 11, 12, 14, 16, 17, 18, 19, 39, 40, 41], [])
  | 27 => some ([1, 2, 7, 8, 10, 11, 12, 14, 16, 17, 18, 19, 20, 21, 39, 40, 41], [])
  | 28 => some ([], [])
  | 29 => some ([1, 2, 7, 8, 10, 11, 12, 14, 16, 17, 18, 19, 20, 39, 40, 41], [])
  | 30 => some ([1, 2, 7, 8, 9, 10, 11, 12, 14, 16, 17, 18, 19, 39, 40, 41], [])
  | 31 => some ([1, 2, 7, 8, 9, 10, 11, 12, 14, 16, 17, 18, 19, 22, 39, 40, 41], [])
  | 32 => some ([], [])
  | 33 => some ([1, 2, 7, 8, 9, 10, 11, 12, 14, 16, 17, 18, 19, 39, 40, 41], [])
  | 34 => some ([1, 2, 7, 8, 9, 10, 11, 12, 14, 16, 17, 18, 19, 23, 24, 39, 40, 41], [])
  | 35 => some ([1, 2, 7, 8, 9, 10, 11, 12, 14, 16, 17, 18, 19, 23, 24, 25, 26, 39, 40, 41], [])
  | 36 => some ([1, 2, 7, 8, 9, 10, 11, 12, 14, 16, 17, 18, 19, 23, 24, 39, 40, 41], [])
  | 37 => some ([1, 2, 7, 8, 9, 10, 11, 12, 14, 16, 17, 18, 19, 23, 24, 39, 40, 41], [])
  | 38 => some ([1, 2, 7, 8, 9, 10, 11, 12, 14, 16, 17, 18, 19, 23, 24, 25, 39, 40, 41], [])
  | 39 => some ([1, 2, 7, 8, 9, 10, 11, 12, 14, 16, 17, 18, 19, 24, 25, 39, 40, 41], [])
  | 40 => some ([1, 2, 7, 8, 9, 10, 11, 12, 14, 16, 17, 19, 24, 25, 39, 40, 41], [])
  | 41 => some ([1, 2, 7, 8, 9, 10, 11, 12, 14, 16, 17, 18, 19, 24, 25, 39, 40, 41], [])
  | 42 => some ([], [])
  | 43 => some ([1, 2, 7, 8, 9, 10, 11, 12, 39, 40, 41], [])
  | 44 => some ([], [])
  | 45 => some ([1, 2, 7, 8, 9, 10, 11, 39, 40, 41], [])
  | 46 => some ([8, 10, 11], [])
  | _ => none
def f3_C (R_f4 : f4_R) (R_f5 : f5_R) (R_f6 : f6_R) (R_f7 : f7_R) (R_f8 : f8_R) (R_f9 : f9_R) (R_f10 : f10_R) (R_f11 : f11_R) (R_f12 : f12_R) (R_f13 : f13_R) (R_f14 : f14_R) (R_f15 : f15_R) (R_f16 : f16_R) (R_f17 : f17_R) (R_f18 : f18_R) (R_f19 : f19_R) : Fns := (orC 4 (f4_cOf R_f4) (orC 5 (f5_cOf R_f5) (orC 6 (f6_cOf R_f6) (orC 7 (f7_cOf R_f7) (orC 8 (f8_cOf R_f8) (orC 9 (f9_cOf R_f9) (orC 10 (f10_cOf R_f10) (orC 11 (f11_cOf R_f11) (orC 12 (f12_cOf R_f12) (orC 13 (f13_cOf R_f13) (orC 14 (f14_cOf R_f14) (orC 15 (f15_cOf R_f15) (orC 16 (f16_cOf R_f16) (orC 17 (f17_cOf R_f17) (orC 18 (f18_cOf R_f18) (orC 19 (f19_cOf R_f19) noC))))))))))))))))
theorem f3_Cok (R_f4 : f4_R) (R_f5 : f5_R) (R_f6 : f6_R) (R_f7 : f7_R) (R_f8 : f8_R) (R_f9 : f9_R) (R_f10 : f10_R) (R_f11 : f11_R) (R_f12 : f12_R) (R_f13 : f13_R) (R_f14 : f14_R) (R_f15 : f15_R) (R_f16 : f16_R) (R_f17 : f17_R) (R_f18 : f18_R) (R_f19 : f19_R) (hR_f4 : AnsOk Try.prog 4 (f4_cOf R_f4)) (hR_f5 : AnsOk Try.prog 5 (f5_cOf R_f5)) (hR_f6 : AnsOk Try.prog 6 (f6_cOf R_f6)) (hR_f7 : AnsOk Try.prog 7 (f7_cOf R_f7)) (hR_f8 : AnsOk Try.prog 8 (f8_cOf R_f8)) (hR_f9 : AnsOk Try.prog 9 (f9_cOf R_f9)) (hR_f10 : AnsOk Try.prog 10 (f10_cOf R_f10)) (hR_f11 : AnsOk Try.prog 11 (f11_cOf R_f11)) (hR_f12 : AnsOk Try.prog 12 (f12_cOf R_f12)) (hR_f13 : AnsOk Try.prog 13 (f13_cOf R_f13)) (hR_f14 : AnsOk Try.prog 14 (f14_cOf R_f14)) (hR_f15 : AnsOk Try.prog 15 (f15_cOf R_f15)) (hR_f16 : AnsOk Try.prog 16 (f16_cOf R_f16)) (hR_f17 : AnsOk Try.prog 17 (f17_cOf R_f17)) (hR_f18 : AnsOk Try.prog 18 (f18_cOf R_f18)) (hR_f19 : AnsOk Try.prog 19 (f19_cOf R_f19)) : CsOk Try.prog (f3_C R_f4 R_f5 R_f6 R_f7 R_f8 R_f9 R_f10 R_f11 R_f12 R_f13 R_f14 R_f15 R_f16 R_f17 R_f18 R_f19) := (orC_ok hR_f4 (orC_ok hR_f5 (orC_ok hR_f6 (orC_ok hR_f7 (orC_ok hR_f8 (orC_ok hR_f9 (orC_ok hR_f10 (orC_ok hR_f11 (orC_ok hR_f12 (orC_ok hR_f13 (orC_ok hR_f14 (orC_ok hR_f15 (orC_ok hR_f16 (orC_ok hR_f17 (orC_ok hR_f18 (orC_ok hR_f19 noC_ok))))))))))))))))
def f3_cx (R_f4 : f4_R) (R_f5 : f5_R) (R_f6 : f6_R) (R_f7 : f7_R) (R_f8 : f8_R) (R_f9 : f9_R) (R_f10 : f10_R) (R_f11 : f11_R) (R_f12 : f12_R) (R_f13 : f13_R) (R_f14 : f14_R) (R_f15 : f15_R) (R_f16 : f16_R) (R_f17 : f17_R) (R_f18 : f18_R) (R_f19 : f19_R) (hR_f4 : AnsOk Try.prog 4 (f4_cOf R_f4)) (hR_f5 : AnsOk Try.prog 5 (f5_cOf R_f5)) (hR_f6 : AnsOk Try.prog 6 (f6_cOf R_f6)) (hR_f7 : AnsOk Try.prog 7 (f7_cOf R_f7)) (hR_f8 : AnsOk Try.prog 8 (f8_cOf R_f8)) (hR_f9 : AnsOk Try.prog 9 (f9_cOf R_f9)) (hR_f10 : AnsOk Try.prog 10 (f10_cOf R_f10)) (hR_f11 : AnsOk Try.prog 11 (f11_cOf R_f11)) (hR_f12 : AnsOk Try.prog 12 (f12_cOf R_f12)) (hR_f13 : AnsOk Try.prog 13 (f13_cOf R_f13)) (hR_f14 : AnsOk Try.prog 14 (f14_cOf R_f14)) (hR_f15 : AnsOk Try.prog 15 (f15_cOf R_f15)) (hR_f16 : AnsOk Try.prog 16 (f16_cOf R_f16)) (hR_f17 : AnsOk Try.prog 17 (f17_cOf R_f17)) (hR_f18 : AnsOk Try.prog 18 (f18_cOf R_f18)) (hR_f19 : AnsOk Try.prog 19 (f19_cOf R_f19)) : Cx := mkCx (tabOf rows) (f3_C R_f4 R_f5 R_f6 R_f7 R_f8 R_f9 R_f10 R_f11 R_f12 R_f13 R_f14 R_f15 R_f16 R_f17 R_f18 R_f19) md (cmpIn cmps) f3_plan (f3_Cok R_f4 R_f5 R_f6 R_f7 R_f8 R_f9 R_f10 R_f11 R_f12 R_f13 R_f14 R_f15 R_f16 R_f17 R_f18 R_f19 hR_f4 hR_f5 hR_f6 hR_f7 hR_f8 hR_f9 hR_f10 hR_f11 hR_f12 hR_f13 hR_f14 hR_f15 hR_f16 hR_f17 hR_f18 hR_f19)
def f3_S1 (v : (List CV) × Int × Int × Int × Int × (List CV) × Int × Int × Nat × (List CV) × Nat × Int × (List CV)) : St := ⟨[.undef, (.sl true none v.1), (.v (CV.int .i64 v.2.1)), .undef, .undef, .undef, .undef, (.ptr [37] 0 0 0), (.ptr [38] 0 0 0), (.v (CV.int .i64 v.2.2.1)), (.v (CV.int .i64 v.2.2.2.1)), (.v (CV.int .i64 v.2.2.2.2.1)), .undef, .undef, .undef, .undef, .undef, .undef, .undef, .undef, .undef, .undef, .undef, .undef, .undef, .undef, .undef, .undef, .undef, .undef, .undef, .undef, .undef, .undef, .undef, .undef, .undef, .undef, .undef, (.sl true (some 6) v.2.2.2.2.2.1), (.v (CV.int .i64 v.2.2.2.2.2.2.1)), (.v (CV.int .i64 v.2.2.2.2.2.2.2.1)), .undef, .undef, .undef, .undef, .undef, .undef, .undef, .undef, .undef, .undef, .undef, .undef, .undef, .undef, .undef, .undef, .undef, .undef, .undef, .undef, .undef, .undef, .undef, .undef, .undef, .undef, .undef, .undef, .undef, .undef, .undef, .undef, .undef, .undef, .undef, .undef, .undef, .undef, .undef, .undef, .undef, .undef, .undef, .undef, .undef, .undef, .undef, .undef, .undef, .undef, .undef, .undef, .undef, .undef, .undef, .undef, .undef, .undef, .undef, .undef, .undef, .undef, .undef, .undef, .undef, .undef, .undef, .undef, .undef, .undef, .undef, .undef, .undef, .undef, .undef, .undef, .undef, .undef, .undef, .undef, .undef, .undef, .undef, .undef, .undef, .undef, .undef, .undef, .undef, .undef, .undef, .undef, .undef, .undef, .undef, .undef, .undef, .undef, .undef, .undef, .undef, .undef, .undef, .undef, .undef, .undef, .undef, .undef, .undef, .undef, .undef, .undef, .undef, .undef, .undef, .undef, .undef, .undef, .undef, .undef, .undef, .undef, .undef, .undef, .undef, .undef, .undef, .undef, .undef, .undef, .undef, .undef, .undef, .undef, .undef, .undef, .undef, .undef, .undef, .undef, .undef], [([37], (.obj [(.osl [0, 37] (some 4) 0 v.2.2.2.2.2.2.2.2.1)])), ([0, 37], (.row false (some 4) v.2.2.2.2.2.2.2.2.2.1)), ([38], (.obj [(.osl [0, 38] (some 6) 0 v.2.2.2.2.2.2.2.2.2.2.1), (.v (CV.int .i64 v.2.2.2.2.2.2.2.2.2.2.2.1))])), ([0, 38], (.row false (some 6) v.2.2.2.2.2.2.2.2.2.2.2.2))]⟩
def f3_S2 (v : (List CV) × Int × Int × Int × Int × Int × (List CV) × Int × Int × Nat × Int × (List CV) × Int × Int × (List CV) × Nat × (List CV) × Nat × Int × (List CV)) : St := ⟨[.undef, (.sl true none v.1), (.v (CV.int .i64 v.2.1)), .undef, .undef, .undef, .undef, (.ptr [37] 0 0 0), (.ptr [38] 0 0 0), (.v (CV.int .i64 v.2.2.1)), (.v (CV.int .i64 v.2.2.2.1)), (.v (CV.int .i64 v.2.2.2.2.1)), (.v (CV.int .i64 v.2.2.2.2.2.1)), .undef, (.sl true none v.2.2.2.2.2.2.1), .undef, (.v (CV.int .i64 v.2.2.2.2.2.2.2.1)), (.v (CV.int .i64 v.2.2.2.2.2.2.2.2.1)), (.osl [18] none 0 v.2.2.2.2.2.2.2.2.2.1), (.v (CV.int .i64 v.2.2.2.2.2.2.2.2.2.2.1)), .undef, .undef, .undef, .undef, .undef, .undef, .undef, .undef, .undef, .undef, .undef, .undef, .undef, .undef, .undef, .undef, .undef, .undef, .undef, (.sl true (some 6) v.2.2.2.2.2.2.2.2.2.2.2.1), (.v (CV.int .i64 v.2.2.2.2.2.2.2.2.2.2.2.2.1)), (.v (CV.int .i64 v.2.2.2.2.2.2.2.2.2.2.2.2.2.1)), .undef, .undef, .undef, .undef, .undef, .undef, .undef, .undef, .undef, .undef, .undef, .undef, .undef, .undef, .undef, .undef, .undef, .undef, .undef, .undef, .undef, .undef, .undef, .undef, .undef, .undef, .undef, .undef, .undef, .undef, .undef, .undef, .undef, .undef, .undef, .undef, .undef, .undef, .undef, .undef, .undef, .undef, .undef, .undef, .undef, .undef, .undef, .undef, .undef, .undef, .undef, .undef, .undef, .undef, .undef, .undef, .undef, .undef, .undef, .undef, .undef, .undef, .undef, .undef, .undef, .undef, .undef, .undef, .undef, .undef, .undef, .undef, .undef, .undef, .undef, .undef, .undef, .undef, .undef, .undef, .undef, .undef, .undef, .undef, .undef, .undef, .undef, .undef, .undef, .undef, .undef, .undef, .undef, .undef, .undef, .undef, .undef, .undef, .undef, .undef, .undef, .undef, .undef, .undef, .undef, .undef, .undef, .undef, .undef, .undef, .undef, .undef, .undef, .undef, .undef, .undef, .undef, .undef, .undef, .undef, .undef, .undef, .undef, .undef, .undef, .undef, .undef, .undef, .undef, .undef, .undef, .undef, .undef, .undef, .undef, .undef, .undef, .undef, .undef, .undef, .undef], [([18], (.row false none v.2.2.2.2.2.2.2.2.2.2.2.2.2.2.1)), ([37], (.obj [(.osl [0, 37] (some 4) 0 v.2.2.2.2.2.2.2.2.2.2.2.2.2.2.2.1)])), ([0, 37], (.row false (some 4) v.2.2.2.2.2.2.2.2.2.2.2.2.2.2.2.2.1)), ([38], (.obj [(.osl [0, 38] (some 6) 0 v.2.2.2.2.2.2.2.2.2.2.2.2.2.2.2.2.2.1), (.v (CV.int .i64 v.2.2.2.2.2.2.2.2.2.2.2.2.2.2.2.2.2.2.1))])), ([0, 38], (.row false (some 6) v.2.2.2.2.2.2.2.2.2.2.2.2.2.2.2.2.2.2.2))]⟩
def f3_J1 {X : Type} (R_f4 : f4_R) (R_f5 : f5_R) (R_f6 : f6_R) (R_f7 : f7_R) (R_f8 : f8_R) (R_f9 : f9_R) (R_f10 : f10_R) (R_f11 : f11_R) (R_f12 : f12_R) (R_f13 : f13_R) (R_f14 : f14_R) (R_f15 : f15_R) (R_f16 : f16_R) (R_f17 : f17_R) (R_f18 : f18_R) (R_f19 : f19_R) (k : Nat) (K : Bool → Option X) (rec2 : (List CV) × Int × Int × Int × Int × Int × (List CV) × Int × Int × Nat × Int × (List CV) × Int × Int × (List CV) × Nat × (List CV) × Nat × Int × (List CV) → Option X) (v26_123 : (List CV) × Int × Int × Int × Int × Int × (List CV) × Int × Int × Nat × Int × (List CV) × Int × Int × (List CV) × Nat × (List CV) × Nat × Int × (List CV)) (v197 : Int × Int × Nat × (List CV) × Nat × (List CV) × Nat × Int × (List CV)) : Option X :=
rec2 (v26_123.1, v26_123.2.1, v197.1, v197.2.1, v26_123.2.2.2.2.1, v26_123.2.2.2.2.2.1, v26_123.2.2.2.2.2.2.1, v26_123.2.2.2.2.2.2.2.1, v26_123.2.2.2.2.2.2.2.2.1, v197.2.2.1, (IntKind.wrap .i64 (v26_123.2.2.2.2.2.2.2.2.2.2.1 + 1)), v26_123.2.2.2.2.2.2.2.2.2.2.2.1, v26_123.2.2.2.2.2.2.2.2.2.2.2.2.1, v26_123.2.2.2.2.2.2.2.2.2.2.2.2.2.1, v197.2.2.2.1, v197.2.2.2.2.1, v197.2.2.2.2.2.1, v197.2.2.2.2.2.2.1, v197.2.2.2.2.2.2.2.1, v197.2.2.2.2.2.2.2.2)
def f3_J2 {X : Type} (R_f4 : f4_R) (R_f5 : f5_R) (R_f6 : f6_R) (R_f7 : f7_R) (R_f8 : f8_R) (R_f9 : f9_R) (R_f10 : f10_R) (R_f11 : f11_R) (R_f12 : f12_R) (R_f13 : f13_R) (R_f14 : f14_R) (R_f15 : f15_R) (R_f16 : f16_R) (R_f17 : f17_R) (R_f18 : f18_R) (R_f19 : f19_R) (k : Nat) (K : Bool → Option X) (rec2 : (List CV) × Int × Int × Int × Int × Int × (List CV) × Int × Int × Nat × Int × (List CV) × Int × Int × (List CV) × Nat × (List CV) × Nat × Int × (List CV) → Option X) (u206 : Int × Int × Int × Nat × Nat × Nat × Int × (List CV) × (List CV) × (List CV)) (v205 : Int × Nat × Int × (List CV)) (v26_123 : (List CV) × Int × Int × Int × Int × Int × (List CV) × Int × Int × Nat × Int × (List CV) × Int × Int × (List CV) × Nat × (List CV) × Nat × Int × (List CV)) (v211 : Int × Nat × (List CV) × Nat × (List CV)) : Option X :=
(bif (v26_123.2.2.2.2.2.2.2.2.2.2.1 == 0) then
(bif (u206.2.2.2.2.2.2.1 != 0) then
K (false)
else
(bif (decide ((IntKind.wrap .i64 (v205.1 - v26_123.2.2.2.2.2.2.2.2.1)) < 247)) then
R_f13 _ (fun u212 =>
(bif (!u212) then
K (false)
else
f3_J1 R_f4 R_f5 R_f6 R_f7 R_f8 R_f9 R_f10 R_f11 R_f12 R_f13 R_f14 R_f15 R_f16 R_f17 R_f18 R_f19 k K rec2 v26_123 (v205.1, v211.1, v211.2.1, v211.2.2.1, v211.2.2.2.1, v211.2.2.2.2, v205.2.1, v205.2.2.1, v205.2.2.2))) ((List.take v211.2.1 (List.drop 0 v211.2.2.1))) ((List.take v211.2.1 (List.drop 0 v211.2.2.1)))
else
f3_J1 R_f4 R_f5 R_f6 R_f7 R_f8 R_f9 R_f10 R_f11 R_f12 R_f13 R_f14 R_f15 R_f16 R_f17 R_f18 R_f19 k K rec2 v26_123 (v205.1, v211.1, v211.2.1, v211.2.2.1, v211.2.2.2.1, v211.2.2.2.2, v205.2.1, v205.2.2.1, v205.2.2.2)))
else
(bif (u206.2.2.2.2.2.2.1 != 0) then
K (false)
else
(bif (decide ((IntKind.wrap .i64 (v205.1 - v26_123.2.2.2.2.2.2.2.2.1)) < 247)) then
R_f13 _ (fun u213 =>
(bif (!u213) then
K (false)
else
f3_J1 R_f4 R_f5 R_f6 R_f7 R_f8 R_f9 R_f10 R_f11 R_f12 R_f13 R_f14 R_f15 R_f16 R_f17 R_f18 R_f19 k K rec2 v26_123 (v205.1, v211.1, v26_123.2.2.2.2.2.2.2.2.2.1, v26_123.2.2.2.2.2.2.2.2.2.2.2.2.2.2.1, v211.2.2.2.1, v211.2.2.2.2, v205.2.1, v205.2.2.1, v205.2.2.2))) ((List.take v211.2.1 (List.drop 0 v211.2.2.1))) ((List.take v26_123.2.2.2.2.2.2.2.2.2.1 (List.drop 0 v26_123.2.2.2.2.2.2.2.2.2.2.2.2.2.2.1)))
else
f3_J1 R_f4 R_f5 R_f6 R_f7 R_f8 R_f9 R_f10 R_f11 R_f12 R_f13 R_f14 R_f15 R_f16 R_f17 R_f18 R_f19 k K rec2 v26_123 (v205.1, v211.1, v26_123.2.2.2.2.2.2.2.2.2.1, v26_123.2.2.2.2.2.2.2.2.2.2.2.2.2.2.1, v211.2.2.2.1, v211.2.2.2.2, v205.2.1, v205.2.2.1, v205.2.2.2))))
def f3_J3 {X : Type} (R_f4 : f4_R) (R_f5 : f5_R) (R_f6 : f6_R) (R_f7 : f7_R) (R_f8 : f8_R) (R_f9 : f9_R) (R_f10 : f10_R) (R_f11 : f11_R) (R_f12 : f12_R) (R_f13 : f13_R) (R_f14 : f14_R) (R_f15 : f15_R) (R_f16 : f16_R) (R_f17 : f17_R) (R_f18 : f18_R) (R_f19 : f19_R) (k : Nat) (K : Bool → Option X) (rec2 : (List CV) × Int × Int × Int × Int × Int × (List CV) × Int × Int × Nat × Int × (List CV) × Int × Int × (List CV) × Nat × (List CV) × Nat × Int × (List CV) → Option X) (v26_123 : (List CV) × Int × Int × Int × Int × Int × (List CV) × Int × Int × Nat × Int × (List CV) × Int × Int × (List CV) × Nat × (List CV) × Nat × Int × (List CV)) (v205 : Int × Nat × Int × (List CV)) : Option X :=
R_f14 _ (fun u206 =>
R_f15 _ (fun u207 =>
(bif (!u207.2.1) then
R_f16 _ (fun u214 =>
R_f8 _ (fun u215 =>
R_f17 _ (fun u216 =>
f3_J2 R_f4 R_f5 R_f6 R_f7 R_f8 R_f9 R_f10 R_f11 R_f12 R_f13 R_f14 R_f15 R_f16 R_f17 R_f18 R_f19 k K rec2 u206 v205 v26_123 ((IntKind.wrap .i64 (v26_123.2.2.2.1 + 1)), u215.1, u215.2.2, u216.1, u216.2)) (7) (u206.2.2.1) (v205.1) ((List.take u215.1 (List.drop 0 u215.2.2))) (u207.2.2.1) (u207.2.2.2.1)) ((CV.agg [(CV.int .i64 u214.1), (CV.int .i64 u214.2.1), (CV.int .i64 u214.2.2.1), (CV.slc none (List.take u214.2.2.2.1 (List.drop 0 u214.2.2.2.2.2.2.1))), (CV.slc (some 2) (List.take u214.2.2.2.2.1 (List.drop 0 u214.2.2.2.2.2.2.2.1))), (CV.slc none (List.take u214.2.2.2.2.2.1 (List.drop 0 u214.2.2.2.2.2.2.2.2)))]))) ((CV.agg [(CV.int .i64 u206.1), (CV.int .i64 u206.2.1), (CV.int .i64 u206.2.2.1), (CV.slc none (List.take u206.2.2.2.1 (List.drop 0 u206.2.2.2.2.2.2.2.1))), (CV.slc (some 2) (List.take u206.2.2.2.2.1 (List.drop 0 u206.2.2.2.2.2.2.2.2.1))), (CV.slc none (List.take u206.2.2.2.2.2.1 (List.drop 0 u206.2.2.2.2.2.2.2.2.2)))])) (68) (0) ([]) ((List.take 1 (List.drop 0 [(CV.int .u8 (IntKind.wrap .u8 (IntKind.wrap .i64 (v26_123.2.2.2.1 + 1))))])))
else
f3_J2 R_f4 R_f5 R_f6 R_f7 R_f8 R_f9 R_f10 R_f11 R_f12 R_f13 R_f14 R_f15 R_f16 R_f17 R_f18 R_f19 k K rec2 u206 v205 v26_123 (v26_123.2.2.2.1, u207.1, u207.2.2.2.2, u207.2.2.1, u207.2.2.2.1))) (7) (u206.2.2.1) (v205.1) (v26_123.2.2.2.2.2.2.2.2.2.2.2.2.2.2.2.1) (v26_123.2.2.2.2.2.2.2.2.2.2.2.2.2.2.2.2.1)) (v26_123.2.2.2.2.2.2.1)
def f3_J4 {X : Type} (R_f4 : f4_R) (R_f5 : f5_R) (R_f6 : f6_R) (R_f7 : f7_R) (R_f8 : f8_R) (R_f9 : f9_R) (R_f10 : f10_R) (R_f11 : f11_R) (R_f12 : f12_R) (R_f13 : f13_R) (R_f14 : f14_R) (R_f15 : f15_R) (R_f16 : f16_R) (R_f17 : f17_R) (R_f18 : f18_R) (R_f19 : f19_R) (k : Nat) (K : Bool → Option X) (loop2 : (List CV) × Int × Int × Int × Int × Int × (List CV) × Int × Int × Nat × Int × (List CV) × Int × Int × (List CV) × Nat × (List CV) × Nat × Int × (List CV) → Option X) (u117 : Nat × Int × (List CV)) (u121 : Int × Nat × Int × (List CV)) (v8_4 : (List CV) × Int × Int × Int × Int × (List CV) × Int × Int × Nat × (List CV) × Nat × Int × (List CV)) (v123 : Int) : Option X :=
loop2 (v8_4.1, v8_4.2.1, v8_4.2.2.1, v8_4.2.2.2.1, (IntKind.wrap .i64 (v8_4.2.2.2.2.1 + 1)), v8_4.2.2.2.2.2.2.2.1, (List.take u117.1 (List.drop 0 u117.2.2)), v123, v8_4.2.2.1, 0, 0, v8_4.2.2.2.2.2.1, v8_4.2.2.2.2.2.2.1, v8_4.2.2.2.2.2.2.2.1, [], v8_4.2.2.2.2.2.2.2.2.1, v8_4.2.2.2.2.2.2.2.2.2.1, u121.2.1, u121.2.2.1, u121.2.2.2)
def f3_T2 {X : Type} (R_f4 : f4_R) (R_f5 : f5_R) (R_f6 : f6_R) (R_f7 : f7_R) (R_f8 : f8_R) (R_f9 : f9_R) (R_f10 : f10_R) (R_f11 : f11_R) (R_f12 : f12_R) (R_f13 : f13_R) (R_f14 : f14_R) (R_f15 : f15_R) (R_f16 : f16_R) (R_f17 : f17_R) (R_f18 : f18_R) (R_f19 : f19_R) (k : Nat) (K : Bool → Option X) (rec1 : (List CV) × Int × Int × Int × Int × (List CV) × Int × Int × Nat × (List CV) × Nat × Int × (List CV) → Option X)  (rec2 : (List CV) × Int × Int × Int × Int × Int × (List CV) × Int × Int × Nat × Int × (List CV) × Int × Int × (List CV) × Nat × (List CV) × Nat × Int × (List CV) → Option X) (v26_123 : (List CV) × Int × Int × Int × Int × Int × (List CV) × Int × Int × Nat × Int × (List CV) × Int × Int × (List CV) × Nat × (List CV) × Nat × Int × (List CV)) : Option X :=
(bif (decide (v26_123.2.2.2.2.2.2.2.2.2.2.1 ≤ v26_123.2.2.2.2.2.2.2.1)) then
(bif (decide (v26_123.2.2.2.2.2.2.2.2.2.2.1 > 0)) then
R_f11 _ (fun u217 =>
(bif (!u217.2.1) then
K (false)
else
R_f12 _ (fun u218 =>
(bif ((Nat.cast (u218.1) : Int) != 1) then
K (false)
else
grd (decide (0 < (Nat.cast (u218.1) : Int))) <|
Option.bind (u218.2.2.2.2)[0]? fun e219 =>
Option.bind (CV.cell e219 3) fun c220 =>
grd (CV.isB c220) <|
(bif (CV.toB c220) then
K (false)
else
grd (decide (0 < (Nat.cast (u218.1) : Int))) <|
Option.bind (u218.2.2.2.2)[0]? fun e221 =>
Option.bind (CV.cell e221 2) fun c222 =>
grd (CV.isL none c222) <|
R_f13 _ (fun u223 =>
(bif (!u223) then
K (false)
else
f3_J3 R_f4 R_f5 R_f6 R_f7 R_f8 R_f9 R_f10 R_f11 R_f12 R_f13 R_f14 R_f15 R_f16 R_f17 R_f18 R_f19 k K rec2 v26_123 (u217.1, u218.2.1, u218.2.2.1, u218.2.2.2.1))) ((CV.toL c222)) (v26_123.2.2.2.2.2.2.1)))) (u217.1) (u217.2.2.1) (u217.2.2.2.1) (u217.2.2.2.2))) (v26_123.2.2.2.2.2.2.2.2.2.2.2.2.2.2.2.2.2.1) (v26_123.2.2.2.2.2.2.2.2.2.2.2.2.2.2.2.2.2.2.1) (v26_123.2.2.2.2.2.2.2.2.2.2.2.2.2.2.2.2.2.2.2)
else
f3_J3 R_f4 R_f5 R_f6 R_f7 R_f8 R_f9 R_f10 R_f11 R_f12 R_f13 R_f14 R_f15 R_f16 R_f17 R_f18 R_f19 k K rec2 v26_123 (v26_123.2.2.1, v26_123.2.2.2.2.2.2.2.2.2.2.2.2.2.2.2.2.2.1, v26_123.2.2.2.2.2.2.2.2.2.2.2.2.2.2.2.2.2.2.1, v26_123.2.2.2.2.2.2.2.2.2.2.2.2.2.2.2.2.2.2.2))
else
R_f18 _ (fun u224 =>
(bif (!u224.1) then
K (false)
else
rec1 (v26_123.1, v26_123.2.1, v26_123.2.2.1, v26_123.2.2.2.1, v26_123.2.2.2.2.1, v26_123.2.2.2.2.2.2.2.2.2.2.2.1, v26_123.2.2.2.2.2.2.2.2.2.2.2.2.1, (IntKind.wrap .i64 (v26_123.2.2.2.2.2.2.2.2.2.2.2.2.2.1 + 1)), v26_123.2.2.2.2.2.2.2.2.2.2.2.2.2.2.2.1, v26_123.2.2.2.2.2.2.2.2.2.2.2.2.2.2.2.2.1, u224.2.1, u224.2.2.1, u224.2.2.2))) (7) (v26_123.2.2.2.2.2.1) (v26_123.2.2.2.2.2.2.2.2.2.2.2.2.2.2.2.2.2.1) (v26_123.2.2.2.2.2.2.2.2.2.2.2.2.2.2.2.2.2.2.1) (v26_123.2.2.2.2.2.2.2.2.2.2.2.2.2.2.2.2.2.2.2))
def f3_L2 {X : Type} (R_f4 : f4_R) (R_f5 : f5_R) (R_f6 : f6_R) (R_f7 : f7_R) (R_f8 : f8_R) (R_f9 : f9_R) (R_f10 : f10_R) (R_f11 : f11_R) (R_f12 : f12_R) (R_f13 : f13_R) (R_f14 : f14_R) (R_f15 : f15_R) (R_f16 : f16_R) (R_f17 : f17_R) (R_f18 : f18_R) (R_f19 : f19_R) (k : Nat) (K : Bool → Option X) (rec1 : (List CV) × Int × Int × Int × Int × (List CV) × Int × Int × Nat × (List CV) × Nat × Int × (List CV) → Option X) (rec2 : (List CV) × Int × Int × Int × Int × Int × (List CV) × Int × Int × Nat × Int × (List CV) × Int × Int × (List CV) × Nat × (List CV) × Nat × Int × (List CV) → Option X) (v : (List CV) × Int × Int × Int × Int × Int × (List CV) × Int × Int × Nat × Int × (List CV) × Int × Int × (List CV) × Nat × (List CV) × Nat × Int × (List CV)) : Option X := f3_T2 R_f4 R_f5 R_f6 R_f7 R_f8 R_f9 R_f10 R_f11 R_f12 R_f13 R_f14 R_f15 R_f16 R_f17 R_f18 R_f19 k K rec1  rec2 v
set_option maxRecDepth 100000 in
theorem f3_L2_ev {X : Type} (R_f4 : f4_R) (R_f5 : f5_R) (R_f6 : f6_R) (R_f7 : f7_R) (R_f8 : f8_R) (R_f9 : f9_R) (R_f10 : f10_R) (R_f11 : f11_R) (R_f12 : f12_R) (R_f13 : f13_R) (R_f14 : f14_R) (R_f15 : f15_R) (R_f16 : f16_R) (R_f17 : f17_R) (R_f18 : f18_R) (R_f19 : f19_R) (hR_f4 : AnsOk Try.prog 4 (f4_cOf R_f4)) (hR_f5 : AnsOk Try.prog 5 (f5_cOf R_f5)) (hR_f6 : AnsOk Try.prog 6 (f6_cOf R_f6)) (hR_f7 : AnsOk Try.prog 7 (f7_cOf R_f7)) (hR_f8 : AnsOk Try.prog 8 (f8_cOf R_f8)) (hR_f9 : AnsOk Try.prog 9 (f9_cOf R_f9)) (hR_f10 : AnsOk Try.prog 10 (f10_cOf R_f10)) (hR_f11 : AnsOk Try.prog 11 (f11_cOf R_f11)) (hR_f12 : AnsOk Try.prog 12 (f12_cOf R_f12)) (hR_f13 : AnsOk Try.prog 13 (f13_cOf R_f13)) (hR_f14 : AnsOk Try.prog 14 (f14_cOf R_f14)) (hR_f15 : AnsOk Try.prog 15 (f15_cOf R_f15)) (hR_f16 : AnsOk Try.prog 16 (f16_cOf R_f16)) (hR_f17 : AnsOk Try.prog 17 (f17_cOf R_f17)) (hR_f18 : AnsOk Try.prog 18 (f18_cOf R_f18)) (hR_f19 : AnsOk Try.prog 19 (f19_cOf R_f19)) (k : Nat) (K : Out → Option X) (r1 : St → Option X) (r2 : St → Option X) (v : (List CV) × Int × Int × Int × Int × Int × (List CV) × Int × Int × Nat × Int × (List CV) × Int × Int × (List CV) × Nat × (List CV) × Nat × Int × (List CV)) : loopB (f3_cx R_f4 R_f5 R_f6 R_f7 R_f8 R_f9 R_f10 R_f11 R_f12 R_f13 R_f14 R_f15 R_f16 R_f17 R_f18 R_f19 hR_f4 hR_f5 hR_f6 hR_f7 hR_f8 hR_f9 hR_f10 hR_f11 hR_f12 hR_f13 hR_f14 hR_f15 hR_f16 hR_f17 hR_f18 hR_f19) k [.r, .r, .r, .r, .r, .l, .r, .b, .o, .r, .r, .l, .b, .r, .r, .r, .r, .r, .r, .r, .r, .r, .r, .l, .r, .b] (Try.f3.body.getD .skip) (retK (f3_cx R_f4 R_f5 R_f6 R_f7 R_f8 R_f9 R_f10 R_f11 R_f12 R_f13 R_f14 R_f15 R_f16 R_f17 R_f18 R_f19 hR_f4 hR_f5 hR_f6 hR_f7 hR_f8 hR_f9 hR_f10 hR_f11 hR_f12 hR_f13 hR_f14 hR_f15 hR_f16 hR_f17 hR_f18 hR_f19) [] Try.f3.results.toList K) [r1] r2 (f3_S2 v) = f3_T2 R_f4 R_f5 R_f6 R_f7 R_f8 R_f9 R_f10 R_f11 R_f12 R_f13 R_f14 R_f15 R_f16 R_f17 R_f18 R_f19 k (fun u => K (f3_out u)) (fun v => r1 (f3_S1 v))  (fun v => r2 (f3_S2 v)) v := by kernel_rfl
theorem f3_L2_it {X : Type} (R_f4 : f4_R) (R_f5 : f5_R) (R_f6 : f6_R) (R_f7 : f7_R) (R_f8 : f8_R) (R_f9 : f9_R) (R_f10 : f10_R) (R_f11 : f11_R) (R_f12 : f12_R) (R_f13 : f13_R) (R_f14 : f14_R) (R_f15 : f15_R) (R_f16 : f16_R) (R_f17 : f17_R) (R_f18 : f18_R) (R_f19 : f19_R) (hR_f4 : AnsOk Try.prog 4 (f4_cOf R_f4)) (hR_f5 : AnsOk Try.prog 5 (f5_cOf R_f5)) (hR_f6 : AnsOk Try.prog 6 (f6_cOf R_f6)) (hR_f7 : AnsOk Try.prog 7 (f7_cOf R_f7)) (hR_f8 : AnsOk Try.prog 8 (f8_cOf R_f8)) (hR_f9 : AnsOk Try.prog 9 (f9_cOf R_f9)) (hR_f10 : AnsOk Try.prog 10 (f10_cOf R_f10)) (hR_f11 : AnsOk Try.prog 11 (f11_cOf R_f11)) (hR_f12 : AnsOk Try.prog 12 (f12_cOf R_f12)) (hR_f13 : AnsOk Try.prog 13 (f13_cOf R_f13)) (hR_f14 : AnsOk Try.prog 14 (f14_cOf R_f14)) (hR_f15 : AnsOk Try.prog 15 (f15_cOf R_f15)) (hR_f16 : AnsOk Try.prog 16 (f16_cOf R_f16)) (hR_f17 : AnsOk Try.prog 17 (f17_cOf R_f17)) (hR_f18 : AnsOk Try.prog 18 (f18_cOf R_f18)) (hR_f19 : AnsOk Try.prog 19 (f19_cOf R_f19)) (k : Nat) (K : Out → Option X) (r1 : St → Option X) : (fun v => iter (loopB (f3_cx R_f4 R_f5 R_f6 R_f7 R_f8 R_f9 R_f10 R_f11 R_f12 R_f13 R_f14 R_f15 R_f16 R_f17 R_f18 R_f19 hR_f4 hR_f5 hR_f6 hR_f7 hR_f8 hR_f9 hR_f10 hR_f11 hR_f12 hR_f13 hR_f14 hR_f15 hR_f16 hR_f17 hR_f18 hR_f19) k [.r, .r, .r, .r, .r, .l, .r, .b, .o, .r, .r, .l, .b, .r, .r, .r, .r, .r, .r, .r, .r, .r, .r, .l, .r, .b] (Try.f3.body.getD .skip) (retK (f3_cx R_f4 R_f5 R_f6 R_f7 R_f8 R_f9 R_f10 R_f11 R_f12 R_f13 R_f14 R_f15 R_f16 R_f17 R_f18 R_f19 hR_f4 hR_f5 hR_f6 hR_f7 hR_f8 hR_f9 hR_f10 hR_f11 hR_f12 hR_f13 hR_f14 hR_f15 hR_f16 hR_f17 hR_f18 hR_f19) [] Try.f3.results.toList K) [r1]) k (f3_S2 v)) = iterV (f3_L2 R_f4 R_f5 R_f6 R_f7 R_f8 R_f9 R_f10 R_f11 R_f12 R_f13 R_f14 R_f15 R_f16 R_f17 R_f18 R_f19 k (fun u => K (f3_out u)) (fun v => r1 (f3_S1 v))) k :=
  iter_map (fun r2 v => (f3_L2_ev R_f4 R_f5 R_f6 R_f7 R_f8 R_f9 R_f10 R_f11 R_f12 R_f13 R_f14 R_f15 R_f16 R_f17 R_f18 R_f19 hR_f4 hR_f5 hR_f6 hR_f7 hR_f8 hR_f9 hR_f10 hR_f11 hR_f12 hR_f13 hR_f14 hR_f15 hR_f16 hR_f17 hR_f18 hR_f19 k K r1 r2 v).trans rfl) k
def f3_T1 {X : Type} (R_f4 : f4_R) (R_f5 : f5_R) (R_f6 : f6_R) (R_f7 : f7_R) (R_f8 : f8_R) (R_f9 : f9_R) (R_f10 : f10_R) (R_f11 : f11_R) (R_f12 : f12_R) (R_f13 : f13_R) (R_f14 : f14_R) (R_f15 : f15_R) (R_f16 : f16_R) (R_f17 : f17_R) (R_f18 : f18_R) (R_f19 : f19_R) (k : Nat) (K : Bool → Option X)  (loop2 : (List CV) × Int × Int × Int × Int × Int × (List CV) × Int × Int × Nat × Int × (List CV) × Int × Int × (List CV) × Nat × (List CV) × Nat × Int × (List CV) → Option X) (rec1 : (List CV) × Int × Int × Int × Int × (List CV) × Int × Int × Nat × (List CV) × Nat × Int × (List CV) → Option X) (v8_4 : (List CV) × Int × Int × Int × Int × (List CV) × Int × Int × Nat × (List CV) × Nat × Int × (List CV)) : Option X :=
(bif (decide (v8_4.2.2.2.2.2.2.2.1 < v8_4.2.2.2.2.2.2.1)) then
grd (decide (0 ≤ v8_4.2.2.2.2.2.2.2.1)) <|
Option.bind (v8_4.2.2.2.2.2.1)[(Int.toNat v8_4.2.2.2.2.2.2.2.1)]? fun e114 =>
grd (CV.isA 6 e114) <|
grd (CV.isI .i64 (CV.cellD 0 e114)) <|
grd (CV.isI .i64 (CV.cellD 1 e114)) <|
grd (CV.isI .i64 (CV.cellD 2 e114)) <|
grd (CV.isL none (CV.cellD 3 e114)) <|
grd (CV.isL (some 2) (CV.cellD 4 e114)) <|
grd (CV.isL none (CV.cellD 5 e114)) <|
R_f7 _ (fun u116 =>
(bif (!u116) then
K (true)
else
R_f8 _ (fun u117 =>
(bif (u117.2.1 != 0) then
rec1 (v8_4.1, v8_4.2.1, v8_4.2.2.1, v8_4.2.2.2.1, v8_4.2.2.2.2.1, v8_4.2.2.2.2.2.1, v8_4.2.2.2.2.2.2.1, (IntKind.wrap .i64 (v8_4.2.2.2.2.2.2.2.1 + 1)), v8_4.2.2.2.2.2.2.2.2.1, v8_4.2.2.2.2.2.2.2.2.2.1, v8_4.2.2.2.2.2.2.2.2.2.2.1, v8_4.2.2.2.2.2.2.2.2.2.2.2.1, v8_4.2.2.2.2.2.2.2.2.2.2.2.2)
else
R_f9 _ (fun u119 =>
(bif (!u119) then
rec1 (v8_4.1, v8_4.2.1, v8_4.2.2.1, v8_4.2.2.2.1, v8_4.2.2.2.2.1, v8_4.2.2.2.2.2.1, v8_4.2.2.2.2.2.2.1, (IntKind.wrap .i64 (v8_4.2.2.2.2.2.2.2.1 + 1)), v8_4.2.2.2.2.2.2.2.2.1, v8_4.2.2.2.2.2.2.2.2.2.1, v8_4.2.2.2.2.2.2.2.2.2.2.1, v8_4.2.2.2.2.2.2.2.2.2.2.2.1, v8_4.2.2.2.2.2.2.2.2.2.2.2.2)
else
R_f10 _ (fun u121 =>
(bif (u121.1 != 0) then
K (false)
else
(bif (decide (v8_4.2.2.2.2.2.2.2.1 < (Nat.cast ((List.length v8_4.1)) : Int))) then
grd (decide (0 ≤ v8_4.2.2.2.2.2.2.2.1)) <|
Option.bind (v8_4.1)[(Int.toNat v8_4.2.2.2.2.2.2.2.1)]? fun e225 =>
grd (CV.isI .i64 e225) <|
f3_J4 R_f4 R_f5 R_f6 R_f7 R_f8 R_f9 R_f10 R_f11 R_f12 R_f13 R_f14 R_f15 R_f16 R_f17 R_f18 R_f19 k K loop2 u117 u121 v8_4 ((if 4 < (if 0 > (CV.toI e225) then 0 else (CV.toI e225)) then 4 else (if 0 > (CV.toI e225) then 0 else (CV.toI e225))))
else
f3_J4 R_f4 R_f5 R_f6 R_f7 R_f8 R_f9 R_f10 R_f11 R_f12 R_f13 R_f14 R_f15 R_f16 R_f17 R_f18 R_f19 k K loop2 u117 u121 v8_4 (0)))) (7) (v8_4.2.2.2.2.2.2.2.1) ((List.take u117.1 (List.drop 0 u117.2.2))) (v8_4.2.2.1) (v8_4.2.1) (v8_4.2.2.2.2.2.2.2.2.2.2.1) (v8_4.2.2.2.2.2.2.2.2.2.2.2.1) (v8_4.2.2.2.2.2.2.2.2.2.2.2.2))) ((CV.agg [(CV.int .i64 0), (CV.int .i64 (CV.toI (CV.cellD 1 e114))), (CV.int .i64 v8_4.2.2.2.2.2.2.2.1), (CV.slc none (CV.toL (CV.cellD 3 e114))), (CV.slc (some 2) (CV.toL (CV.cellD 4 e114))), (CV.slc none (CV.toL (CV.cellD 5 e114)))])))) ((CV.agg [(CV.int .i64 0), (CV.int .i64 (CV.toI (CV.cellD 1 e114))), (CV.int .i64 v8_4.2.2.2.2.2.2.2.1), (CV.slc none (CV.toL (CV.cellD 3 e114))), (CV.slc (some 2) (CV.toL (CV.cellD 4 e114))), (CV.slc none (CV.toL (CV.cellD 5 e114)))])))) ((CV.agg [(CV.int .i64 (CV.toI (CV.cellD 0 e114))), (CV.int .i64 (CV.toI (CV.cellD 1 e114))), (CV.int .i64 (CV.toI (CV.cellD 2 e114))), (CV.slc none (CV.toL (CV.cellD 3 e114))), (CV.slc (some 2) (CV.toL (CV.cellD 4 e114))), (CV.slc none (CV.toL (CV.cellD 5 e114)))]))
else
(bif (decide (v8_4.2.2.2.1 ≥ v8_4.2.2.2.2.1)) then
R_f19 _ (fun u226 =>
K ((u226.1 == 0))) (v8_4.2.2.2.2.2.2.2.2.2.2.1) (v8_4.2.2.2.2.2.2.2.2.2.2.2.1) (v8_4.2.2.2.2.2.2.2.2.2.2.2.2)
else
K (false)))
def f3_L1 {X : Type} (R_f4 : f4_R) (R_f5 : f5_R) (R_f6 : f6_R) (R_f7 : f7_R) (R_f8 : f8_R) (R_f9 : f9_R) (R_f10 : f10_R) (R_f11 : f11_R) (R_f12 : f12_R) (R_f13 : f13_R) (R_f14 : f14_R) (R_f15 : f15_R) (R_f16 : f16_R) (R_f17 : f17_R) (R_f18 : f18_R) (R_f19 : f19_R) (k : Nat) (K : Bool → Option X)  (rec1 : (List CV) × Int × Int × Int × Int × (List CV) × Int × Int × Nat × (List CV) × Nat × Int × (List CV) → Option X) (v : (List CV) × Int × Int × Int × Int × (List CV) × Int × Int × Nat × (List CV) × Nat × Int × (List CV)) : Option X := f3_T1 R_f4 R_f5 R_f6 R_f7 R_f8 R_f9 R_f10 R_f11 R_f12 R_f13 R_f14 R_f15 R_f16 R_f17 R_f18 R_f19 k K  (iterV (f3_L2 R_f4 R_f5 R_f6 R_f7 R_f8 R_f9 R_f10 R_f11 R_f12 R_f13 R_f14 R_f15 R_f16 R_f17 R_f18 R_f19 k K rec1) k) rec1 v
set_option maxRecDepth 100000 in
theorem f3_L1_ev {X : Type} (R_f4 : f4_R) (R_f5 : f5_R) (R_f6 : f6_R) (R_f7 : f7_R) (R_f8 : f8_R) (R_f9 : f9_R) (R_f10 : f10_R) (R_f11 : f11_R) (R_f12 : f12_R) (R_f13 : f13_R) (R_f14 : f14_R) (R_f15 : f15_R) (R_f16 : f16_R) (R_f17 : f17_R) (R_f18 : f18_R) (R_f19 : f19_R) (hR_f4 : AnsOk Try.prog 4 (f4_cOf R_f4)) (hR_f5 : AnsOk Try.prog 5 (f5_cOf R_f5)) (hR_f6 : AnsOk Try.prog 6 (f6_cOf R_f6)) (hR_f7 : AnsOk Try.prog 7 (f7_cOf R_f7)) (hR_f8 : AnsOk Try.prog 8 (f8_cOf R_f8)) (hR_f9 : AnsOk Try.prog 9 (f9_cOf R_f9)) (hR_f10 : AnsOk Try.prog 10 (f10_cOf R_f10)) (hR_f11 : AnsOk Try.prog 11 (f11_cOf R_f11)) (hR_f12 : AnsOk Try.prog 12 (f12_cOf R_f12)) (hR_f13 : AnsOk Try.prog 13 (f13_cOf R_f13)) (hR_f14 : AnsOk Try.prog 14 (f14_cOf R_f14)) (hR_f15 : AnsOk Try.prog 15 (f15_cOf R_f15)) (hR_f16 : AnsOk Try.prog 16 (f16_cOf R_f16)) (hR_f17 : AnsOk Try.prog 17 (f17_cOf R_f17)) (hR_f18 : AnsOk Try.prog 18 (f18_cOf R_f18)) (hR_f19 : AnsOk Try.prog 19 (f19_cOf R_f19)) (k : Nat) (K : Out → Option X)  (r1 : St → Option X) (v : (List CV) × Int × Int × Int × Int × (List CV) × Int × Int × Nat × (List CV) × Nat × Int × (List CV)) : loopB (f3_cx R_f4 R_f5 R_f6 R_f7 R_f8 R_f9 R_f10 R_f11 R_f12 R_f13 R_f14 R_f15 R_f16 R_f17 R_f18 R_f19 hR_f4 hR_f5 hR_f6 hR_f7 hR_f8 hR_f9 hR_f10 hR_f11 hR_f12 hR_f13 hR_f14 hR_f15 hR_f16 hR_f17 hR_f18 hR_f19) k [.r, .r, .r, .r, .r, .l, .r, .b] (Try.f3.body.getD .skip) (retK (f3_cx R_f4 R_f5 R_f6 R_f7 R_f8 R_f9 R_f10 R_f11 R_f12 R_f13 R_f14 R_f15 R_f16 R_f17 R_f18 R_f19 hR_f4 hR_f5 hR_f6 hR_f7 hR_f8 hR_f9 hR_f10 hR_f11 hR_f12 hR_f13 hR_f14 hR_f15 hR_f16 hR_f17 hR_f18 hR_f19) [] Try.f3.results.toList K) [] r1 (f3_S1 v) = f3_T1 R_f4 R_f5 R_f6 R_f7 R_f8 R_f9 R_f10 R_f11 R_f12 R_f13 R_f14 R_f15 R_f16 R_f17 R_f18 R_f19 k (fun u => K (f3_out u))  (fun v => iter (loopB (f3_cx R_f4 R_f5 R_f6 R_f7 R_f8 R_f9 R_f10 R_f11 R_f12 R_f13 R_f14 R_f15 R_f16 R_f17 R_f18 R_f19 hR_f4 hR_f5 hR_f6 hR_f7 hR_f8 hR_f9 hR_f10 hR_f11 hR_f12 hR_f13 hR_f14 hR_f15 hR_f16 hR_f17 hR_f18 hR_f19) k [.r, .r, .r, .r, .r, .l, .r, .b, .o, .r, .r, .l, .b, .r, .r, .r, .r, .r, .r, .r, .r, .r, .r, .l, .r, .b] (Try.f3.body.getD .skip) (retK (f3_cx R_f4 R_f5 R_f6 R_f7 R_f8 R_f9 R_f10 R_f11 R_f12 R_f13 R_f14 R_f15 R_f16 R_f17 R_f18 R_f19 hR_f4 hR_f5 hR_f6 hR_f7 hR_f8 hR_f9 hR_f10 hR_f11 hR_f12 hR_f13 hR_f14 hR_f15 hR_f16 hR_f17 hR_f18 hR_f19) [] Try.f3.results.toList K) [r1]) k (f3_S2 v)) (fun v => r1 (f3_S1 v)) v := by kernel_rfl
theorem f3_L1_it {X : Type} (R_f4 : f4_R) (R_f5 : f5_R) (R_f6 : f6_R) (R_f7 : f7_R) (R_f8 : f8_R) (R_f9 : f9_R) (R_f10 : f10_R) (R_f11 : f11_R) (R_f12 : f12_R) (R_f13 : f13_R) (R_f14 : f14_R) (R_f15 : f15_R) (R_f16 : f16_R) (R_f17 : f17_R) (R_f18 : f18_R) (R_f19 : f19_R) (hR_f4 : AnsOk Try.prog 4 (f4_cOf R_f4)) (hR_f5 : AnsOk Try.prog 5 (f5_cOf R_f5)) (hR_f6 : AnsOk Try.prog 6 (f6_cOf R_f6)) (hR_f7 : AnsOk Try.prog 7 (f7_cOf R_f7)) (hR_f8 : AnsOk Try.prog 8 (f8_cOf R_f8)) (hR_f9 : AnsOk Try.prog 9 (f9_cOf R_f9)) (hR_f10 : AnsOk Try.prog 10 (f10_cOf R_f10)) (hR_f11 : AnsOk Try.prog 11 (f11_cOf R_f11)) (hR_f12 : AnsOk Try.prog 12 (f12_cOf R_f12)) (hR_f13 : AnsOk Try.prog 13 (f13_cOf R_f13)) (hR_f14 : AnsOk Try.prog 14 (f14_cOf R_f14)) (hR_f15 : AnsOk Try.prog 15 (f15_cOf R_f15)) (hR_f16 : AnsOk Try.prog 16 (f16_cOf R_f16)) (hR_f17 : AnsOk Try.prog 17 (f17_cOf R_f17)) (hR_f18 : AnsOk Try.prog 18 (f18_cOf R_f18)) (hR_f19 : AnsOk Try.prog 19 (f19_cOf R_f19)) (k : Nat) (K : Out → Option X)  : (fun v => iter (loopB (f3_cx R_f4 R_f5 R_f6 R_f7 R_f8 R_f9 R_f10 R_f11 R_f12 R_f13 R_f14 R_f15 R_f16 R_f17 R_f18 R_f19 hR_f4 hR_f5 hR_f6 hR_f7 hR_f8 hR_f9 hR_f10 hR_f11 hR_f12 hR_f13 hR_f14 hR_f15 hR_f16 hR_f17 hR_f18 hR_f19) k [.r, .r, .r, .r, .r, .l, .r, .b] (Try.f3.body.getD .skip) (retK (f3_cx R_f4 R_f5 R_f6 R_f7 R_f8 R_f9 R_f10 R_f11 R_f12 R_f13 R_f14 R_f15 R_f16 R_f17 R_f18 R_f19 hR_f4 hR_f5 hR_f6 hR_f7 hR_f8 hR_f9 hR_f10 hR_f11 hR_f12 hR_f13 hR_f14 hR_f15 hR_f16 hR_f17 hR_f18 hR_f19) [] Try.f3.results.toList K) []) k (f3_S1 v)) = iterV (f3_L1 R_f4 R_f5 R_f6 R_f7 R_f8 R_f9 R_f10 R_f11 R_f12 R_f13 R_f14 R_f15 R_f16 R_f17 R_f18 R_f19 k (fun u => K (f3_out u)) ) k :=
  iter_map (fun r1 v => (f3_L1_ev R_f4 R_f5 R_f6 R_f7 R_f8 R_f9 R_f10 R_f11 R_f12 R_f13 R_f14 R_f15 R_f16 R_f17 R_f18 R_f19 hR_f4 hR_f5 hR_f6 hR_f7 hR_f8 hR_f9 hR_f10 hR_f11 hR_f12 hR_f13 hR_f14 hR_f15 hR_f16 hR_f17 hR_f18 hR_f19 k K  r1 v).trans (by rw [f3_L2_it R_f4 R_f5 R_f6 R_f7 R_f8 R_f9 R_f10 R_f11 R_f12 R_f13 R_f14 R_f15 R_f16 R_f17 R_f18 R_f19 hR_f4 hR_f5 hR_f6 hR_f7 hR_f8 hR_f9 hR_f10 hR_f11 hR_f12 hR_f13 hR_f14 hR_f15 hR_f16 hR_f17 hR_f18 hR_f19 k K r1]; rfl)) k
def f3_T {X : Type} (R_f4 : f4_R) (R_f5 : f5_R) (R_f6 : f6_R) (R_f7 : f7_R) (R_f8 : f8_R) (R_f9 : f9_R) (R_f10 : f10_R) (R_f11 : f11_R) (R_f12 : f12_R) (R_f13 : f13_R) (R_f14 : f14_R) (R_f15 : f15_R) (R_f16 : f16_R) (R_f17 : f17_R) (R_f18 : f18_R) (R_f19 : f19_R) (k : Nat) (K : Bool → Option X) (loop1 : (List CV) × Int × Int × Int × Int × (List CV) × Int × Int × Nat × (List CV) × Nat × Int × (List CV) → Option X) (x0 : List CV) (x1 : List CV) (x2 : Int) : Option X :=
R_f4 _ (fun u2 =>
(bif (!u2) then
K (false)
else
(bif (decide ((Nat.cast ((List.length x0)) : Int) > 8)) then
K (true)
else
(bif (decide ((Nat.cast ((List.length x1)) : Int) > 20)) then
K (true)
else
R_f5 _ (fun u3 =>
R_f6 _ (fun u4 =>
loop1 (x1, x2, 0, 0, 0, x0, (Nat.cast ((List.length x0)) : Int), 0, 0, u3, 0, 0, u4)) ) )))) 
/-- "outpost/outposttop.WholeOnce" -/
def f3_A (R_f4 : f4_R) (R_f5 : f5_R) (R_f6 : f6_R) (R_f7 : f7_R) (R_f8 : f8_R) (R_f9 : f9_R) (R_f10 : f10_R) (R_f11 : f11_R) (R_f12 : f12_R) (R_f13 : f13_R) (R_f14 : f14_R) (R_f15 : f15_R) (R_f16 : f16_R) (R_f17 : f17_R) (R_f18 : f18_R) (R_f19 : f19_R) (k : Nat) : f3_R := fun X K x0 x1 x2 => f3_T R_f4 R_f5 R_f6 R_f7 R_f8 R_f9 R_f10 R_f11 R_f12 R_f13 R_f14 R_f15 R_f16 R_f17 R_f18 R_f19 k K (iterV (f3_L1 R_f4 R_f5 R_f6 R_f7 R_f8 R_f9 R_f10 R_f11 R_f12 R_f13 R_f14 R_f15 R_f16 R_f17 R_f18 R_f19 k K) k) x0 x1 x2
set_option maxRecDepth 100000 in
theorem f3_ev' {X : Type} (R_f4 : f4_R) (R_f5 : f5_R) (R_f6 : f6_R) (R_f7 : f7_R) (R_f8 : f8_R) (R_f9 : f9_R) (R_f10 : f10_R) (R_f11 : f11_R) (R_f12 : f12_R) (R_f13 : f13_R) (R_f14 : f14_R) (R_f15 : f15_R) (R_f16 : f16_R) (R_f17 : f17_R) (R_f18 : f18_R) (R_f19 : f19_R) (hR_f4 : AnsOk Try.prog 4 (f4_cOf R_f4)) (hR_f5 : AnsOk Try.prog 5 (f5_cOf R_f5)) (hR_f6 : AnsOk Try.prog 6 (f6_cOf R_f6)) (hR_f7 : AnsOk Try.prog 7 (f7_cOf R_f7)) (hR_f8 : AnsOk Try.prog 8 (f8_cOf R_f8)) (hR_f9 : AnsOk Try.prog 9 (f9_cOf R_f9)) (hR_f10 : AnsOk Try.prog 10 (f10_cOf R_f10)) (hR_f11 : AnsOk Try.prog 11 (f11_cOf R_f11)) (hR_f12 : AnsOk Try.prog 12 (f12_cOf R_f12)) (hR_f13 : AnsOk Try.prog 13 (f13_cOf R_f13)) (hR_f14 : AnsOk Try.prog 14 (f14_cOf R_f14)) (hR_f15 : AnsOk Try.prog 15 (f15_cOf R_f15)) (hR_f16 : AnsOk Try.prog 16 (f16_cOf R_f16)) (hR_f17 : AnsOk Try.prog 17 (f17_cOf R_f17)) (hR_f18 : AnsOk Try.prog 18 (f18_cOf R_f18)) (hR_f19 : AnsOk Try.prog 19 (f19_cOf R_f19)) (k : Nat) (K : Out → Option X) (x0 : List CV) (x1 : List CV) (x2 : Int) : evFn (f3_cx R_f4 R_f5 R_f6 R_f7 R_f8 R_f9 R_f10 R_f11 R_f12 R_f13 R_f14 R_f15 R_f16 R_f17 R_f18 R_f19 hR_f4 hR_f5 hR_f6 hR_f7 hR_f8 hR_f9 hR_f10 hR_f11 hR_f12 hR_f13 hR_f14 hR_f15 hR_f16 hR_f17 hR_f18 hR_f19) [] k Try.f3.ntmps Try.f3.results.toList (Try.f3.body.getD .skip) [(.sl true (some 6) x0), (.sl true none x1), (.v (CV.int .i64 x2))] [] K = f3_T R_f4 R_f5 R_f6 R_f7 R_f8 R_f9 R_f10 R_f11 R_f12 R_f13 R_f14 R_f15 R_f16 R_f17 R_f18 R_f19 k (fun u => K (f3_out u)) (fun v => iter (loopB (f3_cx R_f4 R_f5 R_f6 R_f7 R_f8 R_f9 R_f10 R_f11 R_f12 R_f13 R_f14 R_f15 R_f16 R_f17 R_f18 R_f19 hR_f4 hR_f5 hR_f6 hR_f7 hR_f8 hR_f9 hR_f10 hR_f11 hR_f12 hR_f13 hR_f14 hR_f15 hR_f16 hR_f17 hR_f18 hR_f19) k [.r, .r, .r, .r, .r, .l, .r, .b] (Try.f3.body.getD .skip) (retK (f3_cx R_f4 R_f5 R_f6 R_f7 R_f8 R_f9 R_f10 R_f11 R_f12 R_f13 R_f14 R_f15 R_f16 R_f17 R_f18 R_f19 hR_f4 hR_f5 hR_f6 hR_f7 hR_f8 hR_f9 hR_f10 hR_f11 hR_f12 hR_f13 hR_f14 hR_f15 hR_f16 hR_f17 hR_f18 hR_f19) [] Try.f3.results.toList K) []) k (f3_S1 v)) x0 x1 x2 := by kernel_rfl
theorem f3_ev {X : Type} (R_f4 : f4_R) (R_f5 : f5_R) (R_f6 : f6_R) (R_f7 : f7_R) (R_f8 : f8_R) (R_f9 : f9_R) (R_f10 : f10_R) (R_f11 : f11_R) (R_f12 : f12_R) (R_f13 : f13_R) (R_f14 : f14_R) (R_f15 : f15_R) (R_f16 : f16_R) (R_f17 : f17_R) (R_f18 : f18_R) (R_f19 : f19_R) (hR_f4 : AnsOk Try.prog 4 (f4_cOf R_f4)) (hR_f5 : AnsOk Try.prog 5 (f5_cOf R_f5)) (hR_f6 : AnsOk Try.prog 6 (f6_cOf R_f6)) (hR_f7 : AnsOk Try.prog 7 (f7_cOf R_f7)) (hR_f8 : AnsOk Try.prog 8 (f8_cOf R_f8)) (hR_f9 : AnsOk Try.prog 9 (f9_cOf R_f9)) (hR_f10 : AnsOk Try.prog 10 (f10_cOf R_f10)) (hR_f11 : AnsOk Try.prog 11 (f11_cOf R_f11)) (hR_f12 : AnsOk Try.prog 12 (f12_cOf R_f12)) (hR_f13 : AnsOk Try.prog 13 (f13_cOf R_f13)) (hR_f14 : AnsOk Try.prog 14 (f14_cOf R_f14)) (hR_f15 : AnsOk Try.prog 15 (f15_cOf R_f15)) (hR_f16 : AnsOk Try.prog 16 (f16_cOf R_f16)) (hR_f17 : AnsOk Try.prog 17 (f17_cOf R_f17)) (hR_f18 : AnsOk Try.prog 18 (f18_cOf R_f18)) (hR_f19 : AnsOk Try.prog 19 (f19_cOf R_f19)) (k : Nat) (K : Out → Option X) (x0 : List CV) (x1 : List CV) (x2 : Int) : evFn (f3_cx R_f4 R_f5 R_f6 R_f7 R_f8 R_f9 R_f10 R_f11 R_f12 R_f13 R_f14 R_f15 R_f16 R_f17 R_f18 R_f19 hR_f4 hR_f5 hR_f6 hR_f7 hR_f8 hR_f9 hR_f10 hR_f11 hR_f12 hR_f13 hR_f14 hR_f15 hR_f16 hR_f17 hR_f18 hR_f19) [] k Try.f3.ntmps Try.f3.results.toList (Try.f3.body.getD .skip) [(.sl true (some 6) x0), (.sl true none x1), (.v (CV.int .i64 x2))] [] K = f3_A R_f4 R_f5 R_f6 R_f7 R_f8 R_f9 R_f10 R_f11 R_f12 R_f13 R_f14 R_f15 R_f16 R_f17 R_f18 R_f19 k X (fun u => K (f3_out u)) x0 x1 x2 := (f3_ev' R_f4 R_f5 R_f6 R_f7 R_f8 R_f9 R_f10 R_f11 R_f12 R_f13 R_f14 R_f15 R_f16 R_f17 R_f18 R_f19 hR_f4 hR_f5 hR_f6 hR_f7 hR_f8 hR_f9 hR_f10 hR_f11 hR_f12 hR_f13 hR_f14 hR_f15 hR_f16 hR_f17 hR_f18 hR_f19 k K x0 x1 x2).trans (by rw [f3_L1_it R_f4 R_f5 R_f6 R_f7 R_f8 R_f9 R_f10 R_f11 R_f12 R_f13 R_f14 R_f15 R_f16 R_f17 R_f18 R_f19 hR_f4 hR_f5 hR_f6 hR_f7 hR_f8 hR_f9 hR_f10 hR_f11 hR_f12 hR_f13 hR_f14 hR_f15 hR_f16 hR_f17 hR_f18 hR_f19 k K]; rfl)
theorem f3_okA (R_f4 : f4_R) (R_f5 : f5_R) (R_f6 : f6_R) (R_f7 : f7_R) (R_f8 : f8_R) (R_f9 : f9_R) (R_f10 : f10_R) (R_f11 : f11_R) (R_f12 : f12_R) (R_f13 : f13_R) (R_f14 : f14_R) (R_f15 : f15_R) (R_f16 : f16_R) (R_f17 : f17_R) (R_f18 : f18_R) (R_f19 : f19_R) (hR_f4 : AnsOk Try.prog 4 (f4_cOf R_f4)) (hR_f5 : AnsOk Try.prog 5 (f5_cOf R_f5)) (hR_f6 : AnsOk Try.prog 6 (f6_cOf R_f6)) (hR_f7 : AnsOk Try.prog 7 (f7_cOf R_f7)) (hR_f8 : AnsOk Try.prog 8 (f8_cOf R_f8)) (hR_f9 : AnsOk Try.prog 9 (f9_cOf R_f9)) (hR_f10 : AnsOk Try.prog 10 (f10_cOf R_f10)) (hR_f11 : AnsOk Try.prog 11 (f11_cOf R_f11)) (hR_f12 : AnsOk Try.prog 12 (f12_cOf R_f12)) (hR_f13 : AnsOk Try.prog 13 (f13_cOf R_f13)) (hR_f14 : AnsOk Try.prog 14 (f14_cOf R_f14)) (hR_f15 : AnsOk Try.prog 15 (f15_cOf R_f15)) (hR_f16 : AnsOk Try.prog 16 (f16_cOf R_f16)) (hR_f17 : AnsOk Try.prog 17 (f17_cOf R_f17)) (hR_f18 : AnsOk Try.prog 18 (f18_cOf R_f18)) (hR_f19 : AnsOk Try.prog 19 (f19_cOf R_f19)) (k : Nat) : AnsOk Try.prog 3 (f3_cOf (f3_A R_f4 R_f5 R_f6 R_f7 R_f8 R_f9 R_f10 R_f11 R_f12 R_f13 R_f14 R_f15 R_f16 R_f17 R_f18 R_f19 k)) := by
  intro X xs ns K x h
  unfold f3_cOf at h ⊢
  split at h
  · exact ans_main S (f3_Cok R_f4 R_f5 R_f6 R_f7 R_f8 R_f9 R_f10 R_f11 R_f12 R_f13 R_f14 R_f15 R_f16 R_f17 R_f18 R_f19 hR_f4 hR_f5 hR_f6 hR_f7 hR_f8 hR_f9 hR_f10 hR_f11 hR_f12 hR_f13 hR_f14 hR_f15 hR_f16 hR_f17 hR_f18 hR_f19) Try.func3 (ent_of Try.func3 (by kernel_rfl) rfl) rfl (fun X K => f3_ev R_f4 R_f5 R_f6 R_f7 R_f8 R_f9 R_f10 R_f11 R_f12 R_f13 R_f14 R_f15 R_f16 R_f17 R_f18 R_f19 hR_f4 hR_f5 hR_f6 hR_f7 hR_f8 hR_f9 hR_f10 hR_f11 hR_f12 hR_f13 hR_f14 hR_f15 hR_f16 hR_f17 hR_f18 hR_f19 k K _ _ _) h
  · cases h
/-- "outpost/outposttop.WholeOnce" -/
def f3 {X : Type} (k : Nat) (K : Bool → Option X) (x0 : List CV) (x1 : List CV) (x2 : Int) : Option X := f3_A (fun X => @f4 X k) (fun X => @f5 X k) (fun X => @f6 X k) (fun X => @f7 X k) (fun X => @f8 X k) (fun X => @f9 X k) (fun X => @f10 X k) (fun X => @f11 X k) (fun X => @f12 X k) (fun X => @f13 X k) (fun X => @f14 X k) (fun X => @f15 X k) (fun X => @f16 X k) (fun X => @f17 X k) (fun X => @f18 X k) (fun X => @f19 X k) k X K x0 x1 x2
theorem f3_ok (k : Nat) : AnsOk Try.prog 3 (f3_cOf (fun X => @f3 X k)) := f3_okA (fun X => @f4 X k) (fun X => @f5 X k) (fun X => @f6 X k) (fun X => @f7 X k) (fun X => @f8 X k) (fun X => @f9 X k) (fun X => @f10 X k) (fun X => @f11 X k) (fun X => @f12 X k) (fun X => @f13 X k) (fun X => @f14 X k) (fun X => @f15 X k) (fun X => @f16 X k) (fun X => @f17 X k) (fun X => @f18 X k) (fun X => @f19 X k) (f4_ok k) (f5_ok k) (f6_ok k) (f7_ok k) (f8_ok k) (f9_ok k) (f10_ok k) (f11_ok k) (f12_ok k) (f13_ok k) (f14_ok k) (f15_ok k) (f16_ok k) (f17_ok k) (f18_ok k) (f19_ok k) k
end Go.Proofs.YtfllanhepeginaaD
