/- Functions of the program, as plain Lean functions: each with the proof that the evaluator computes it. (Printed by wip/dec/dec.py.) -/
import Derived.Test.YtglpldigkhhddaaTN
import Derived.Test.YtglpldigkhhddaaTO
import Derived.Test.YtglpldigkhhddaaTQ
import Derived.Test.YtglpldigkhhddaaProg
import Derived.Test.YtglpldigkhhddaaChecked
import Derived.Test.YtglpldigkhhddaaDA
namespace Go.Proofs.YtglpldigkhhddaaD
open Go Go.Proofs.YtglpldigkhhddaaS Go.Proofs
set_option linter.unusedVariables false
abbrev f4_R : Type 1 := (X : Type) → (Bool → Option X) → Option X
def f4_out (u : Bool) : Out := ⟨(.v (CV.bool u)), []⟩
def f4_cOf (R : f4_R) : FnC := fun X xs ns K => match xs, ns with
  | [], [] => R X (fun u => K (f4_out u)) 
  | _, _ => none
def f4_plan : Nat → Option (List Nat × List Wk)
  | 0 => some ([], [])
  | 1 => some ([], [])
  | 2 => some ([1, 2], [])
  | 3 => some ([2, 3, 4], [])
  | _ => none
def f4_C (R_f9 : f9_R) (R_f10 : f10_R) (R_f16 : f16_R) (R_f17 : f17_R) (R_f18 : f18_R) (R_f19 : f19_R) : Fns := (orC 9 (f9_cOf R_f9) (orC 10 (f10_cOf R_f10) (orC 16 (f16_cOf R_f16) (orC 17 (f17_cOf R_f17) (orC 18 (f18_cOf R_f18) (orC 19 (f19_cOf R_f19) noC))))))
theorem f4_Cok (R_f9 : f9_R) (R_f10 : f10_R) (R_f16 : f16_R) (R_f17 : f17_R) (R_f18 : f18_R) (R_f19 : f19_R) (hR_f9 : AnsOk Try.prog 9 (f9_cOf R_f9)) (hR_f10 : AnsOk Try.prog 10 (f10_cOf R_f10)) (hR_f16 : AnsOk Try.prog 16 (f16_cOf R_f16)) (hR_f17 : AnsOk Try.prog 17 (f17_cOf R_f17)) (hR_f18 : AnsOk Try.prog 18 (f18_cOf R_f18)) (hR_f19 : AnsOk Try.prog 19 (f19_cOf R_f19)) : CsOk Try.prog (f4_C R_f9 R_f10 R_f16 R_f17 R_f18 R_f19) := (orC_ok hR_f9 (orC_ok hR_f10 (orC_ok hR_f16 (orC_ok hR_f17 (orC_ok hR_f18 (orC_ok hR_f19 noC_ok))))))
def f4_cx (R_f9 : f9_R) (R_f10 : f10_R) (R_f16 : f16_R) (R_f17 : f17_R) (R_f18 : f18_R) (R_f19 : f19_R) (hR_f9 : AnsOk Try.prog 9 (f9_cOf R_f9)) (hR_f10 : AnsOk Try.prog 10 (f10_cOf R_f10)) (hR_f16 : AnsOk Try.prog 16 (f16_cOf R_f16)) (hR_f17 : AnsOk Try.prog 17 (f17_cOf R_f17)) (hR_f18 : AnsOk Try.prog 18 (f18_cOf R_f18)) (hR_f19 : AnsOk Try.prog 19 (f19_cOf R_f19)) : Cx := mkCx (tabOf rows) (f4_C R_f9 R_f10 R_f16 R_f17 R_f18 R_f19) md (cmpIn cmps) f4_plan (f4_Cok R_f9 R_f10 R_f16 R_f17 R_f18 R_f19 hR_f9 hR_f10 hR_f16 hR_f17 hR_f18 hR_f19)
def f4_T {X : Type} (R_f9 : f9_R) (R_f10 : f10_R) (R_f16 : f16_R) (R_f17 : f17_R) (R_f18 : f18_R) (R_f19 : f19_R) (k : Nat) (K : Bool → Option X)   : Option X :=
R_f9 _ (fun u1 =>
R_f10 _ (fun u2 =>
(bif (u1.2.1 == 0) then
(bif (u2.2.2.2.2.2.2.1 == 0) then
(bif (u2.2.1 == 1) then
(bif (u2.2.2.1 == 1) then
R_f16 _ (fun u3 =>
R_f17 _ (fun u4 =>
(bif (u4.1 == 0) then
R_f18 _ (fun u5 =>
R_f19 _ (fun u6 =>
K ((u6.1 == 0))) (0) (0) (u5)) 
else
K (false))) (0) (0) (u3)) 
else
K (false))
else
K (false))
else
K (false))
else
K (false))) ((List.take u1.1 (List.drop 0 u1.2.2)))) ((CV.agg [(CV.int .i64 0), (CV.int .i64 1), (CV.int .i64 1), (CV.slc none []), (CV.slc (some 2) []), (CV.slc none [])]))
/-- "outpost/outposttop.soundWire" -/
def f4_A (R_f9 : f9_R) (R_f10 : f10_R) (R_f16 : f16_R) (R_f17 : f17_R) (R_f18 : f18_R) (R_f19 : f19_R) (k : Nat) : f4_R := fun X K  => f4_T R_f9 R_f10 R_f16 R_f17 R_f18 R_f19 k K  
set_option maxRecDepth 100000 in
theorem f4_ev' {X : Type} (R_f9 : f9_R) (R_f10 : f10_R) (R_f16 : f16_R) (R_f17 : f17_R) (R_f18 : f18_R) (R_f19 : f19_R) (hR_f9 : AnsOk Try.prog 9 (f9_cOf R_f9)) (hR_f10 : AnsOk Try.prog 10 (f10_cOf R_f10)) (hR_f16 : AnsOk Try.prog 16 (f16_cOf R_f16)) (hR_f17 : AnsOk Try.prog 17 (f17_cOf R_f17)) (hR_f18 : AnsOk Try.prog 18 (f18_cOf R_f18)) (hR_f19 : AnsOk Try.prog 19 (f19_cOf R_f19)) (k : Nat) (K : Out → Option X)  : evFn (f4_cx R_f9 R_f10 R_f16 R_f17 R_f18 R_f19 hR_f9 hR_f10 hR_f16 hR_f17 hR_f18 hR_f19) [] k Try.f4.ntmps Try.f4.results.toList (Try.f4.body.getD .skip) [] [] K = f4_T R_f9 R_f10 R_f16 R_f17 R_f18 R_f19 k (fun u => K (f4_out u))  := by kernel_rfl
theorem f4_ev {X : Type} (R_f9 : f9_R) (R_f10 : f10_R) (R_f16 : f16_R) (R_f17 : f17_R) (R_f18 : f18_R) (R_f19 : f19_R) (hR_f9 : AnsOk Try.prog 9 (f9_cOf R_f9)) (hR_f10 : AnsOk Try.prog 10 (f10_cOf R_f10)) (hR_f16 : AnsOk Try.prog 16 (f16_cOf R_f16)) (hR_f17 : AnsOk Try.prog 17 (f17_cOf R_f17)) (hR_f18 : AnsOk Try.prog 18 (f18_cOf R_f18)) (hR_f19 : AnsOk Try.prog 19 (f19_cOf R_f19)) (k : Nat) (K : Out → Option X)  : evFn (f4_cx R_f9 R_f10 R_f16 R_f17 R_f18 R_f19 hR_f9 hR_f10 hR_f16 hR_f17 hR_f18 hR_f19) [] k Try.f4.ntmps Try.f4.results.toList (Try.f4.body.getD .skip) [] [] K = f4_A R_f9 R_f10 R_f16 R_f17 R_f18 R_f19 k X (fun u => K (f4_out u))  := (f4_ev' R_f9 R_f10 R_f16 R_f17 R_f18 R_f19 hR_f9 hR_f10 hR_f16 hR_f17 hR_f18 hR_f19 k K ).trans rfl
theorem f4_okA (R_f9 : f9_R) (R_f10 : f10_R) (R_f16 : f16_R) (R_f17 : f17_R) (R_f18 : f18_R) (R_f19 : f19_R) (hR_f9 : AnsOk Try.prog 9 (f9_cOf R_f9)) (hR_f10 : AnsOk Try.prog 10 (f10_cOf R_f10)) (hR_f16 : AnsOk Try.prog 16 (f16_cOf R_f16)) (hR_f17 : AnsOk Try.prog 17 (f17_cOf R_f17)) (hR_f18 : AnsOk Try.prog 18 (f18_cOf R_f18)) (hR_f19 : AnsOk Try.prog 19 (f19_cOf R_f19)) (k : Nat) : AnsOk Try.prog 4 (f4_cOf (f4_A R_f9 R_f10 R_f16 R_f17 R_f18 R_f19 k)) := by
  intro X xs ns K x h
  unfold f4_cOf at h ⊢
  split at h
  · exact ans_main S (f4_Cok R_f9 R_f10 R_f16 R_f17 R_f18 R_f19 hR_f9 hR_f10 hR_f16 hR_f17 hR_f18 hR_f19) Try.func4 (ent_of Try.func4 (by kernel_rfl) rfl) rfl (fun X K => f4_ev R_f9 R_f10 R_f16 R_f17 R_f18 R_f19 hR_f9 hR_f10 hR_f16 hR_f17 hR_f18 hR_f19 k K ) h
  · cases h
/-- "outpost/outposttop.soundWire" -/
def f4 {X : Type} (k : Nat) (K : Bool → Option X)  : Option X := f4_A (fun X => @f9 X k) (fun X => @f10 X k) (fun X => @f16 X k) (fun X => @f17 X k) (fun X => @f18 X k) (fun X => @f19 X k) k X K 
theorem f4_ok (k : Nat) : AnsOk Try.prog 4 (f4_cOf (fun X => @f4 X k)) := f4_okA (fun X => @f9 X k) (fun X => @f10 X k) (fun X => @f16 X k) (fun X => @f17 X k) (fun X => @f18 X k) (fun X => @f19 X k) (f9_ok k) (f10_ok k) (f16_ok k) (f17_ok k) (f18_ok k) (f19_ok k) k
abbrev f5_R : Type 1 := (X : Type) → (Int × (List CV) → Option X) → Int → Option X
def f5_out (u : Int × (List CV)) : Out := ⟨(.ptr [2000] 0 0 0), [([2000], (.obj [(.v (CV.int .i64 u.1)), (.osl [1, 2000] none 0 0), (.v (CV.bool false))])), ([1, 2000], (.row false none u.2))]⟩
def f5_cOf (R : f5_R) : FnC := fun X xs ns K => match xs, ns with
  | [(.v (CV.int .i64 x0))], [] => R X (fun u => K (f5_out u)) x0
  | _, _ => none
def f5_plan : Nat → Option (List Nat × List Wk)
  | 0 => some ([0], [])
  | 1 => some ([0], [])
  | _ => none
def f5_C : Fns := noC
theorem f5_Cok : CsOk Try.prog (f5_C) := noC_ok
def f5_cx : Cx := mkCx (tabOf rows) (f5_C) md (cmpIn cmps) f5_plan (f5_Cok)
def f5_T {X : Type} (k : Nat) (K : Int × (List CV) → Option X)  (x0 : Int) : Option X :=
K ((if 1048576 < (if 0 > x0 then 0 else x0) then 1048576 else (if 0 > x0 then 0 else x0)), (List.take 0 []))
/-- "outpost/block.NewJoin" -/
def f5_A (k : Nat) : f5_R := fun X K x0 => f5_T k K  x0
set_option maxRecDepth 100000 in
theorem f5_ev' {X : Type} (k : Nat) (K : Out → Option X) (x0 : Int) : evFn (f5_cx) [] k Try.f5.ntmps Try.f5.results.toList (Try.f5.body.getD .skip) [(.v (CV.int .i64 x0))] [] K = f5_T k (fun u => K (f5_out u)) x0 := by kernel_rfl
theorem f5_ev {X : Type} (k : Nat) (K : Out → Option X) (x0 : Int) : evFn (f5_cx) [] k Try.f5.ntmps Try.f5.results.toList (Try.f5.body.getD .skip) [(.v (CV.int .i64 x0))] [] K = f5_A k X (fun u => K (f5_out u)) x0 := (f5_ev' k K x0).trans rfl
theorem f5_okA (k : Nat) : AnsOk Try.prog 5 (f5_cOf (f5_A k)) := by
  intro X xs ns K x h
  unfold f5_cOf at h ⊢
  split at h
  · exact ans_main S (f5_Cok) Try.func5 (ent_of Try.func5 (by kernel_rfl) rfl) rfl (fun X K => f5_ev k K _) h
  · cases h
/-- "outpost/block.NewJoin" -/
def f5 {X : Type} (k : Nat) (K : Int × (List CV) → Option X) (x0 : Int) : Option X := f5_A k X K x0
theorem f5_ok (k : Nat) : AnsOk Try.prog 5 (f5_cOf (fun X => @f5 X k)) := f5_okA k
abbrev f22_R : Type 1 := (X : Type) → (Int × Bool → Option X) → Int → Option X
def f22_out (u : Int × Bool) : Out := ⟨(.tup [(.v (CV.int .i64 u.1)), (.v (CV.bool u.2))]), []⟩
def f22_cOf (R : f22_R) : FnC := fun X xs ns K => match xs, ns with
  | [(.v (CV.int .i64 x0))], [] => R X (fun u => K (f22_out u)) x0
  | _, _ => none
def f22_plan : Nat → Option (List Nat × List Wk)
  | 0 => some ([0], [])
  | 1 => some ([0], [])
  | 2 => some ([0, 5], [])
  | 3 => some ([0, 5], [])
  | 4 => some ([0, 4, 5], [])
  | 5 => some ([4], [])
  | 6 => some ([0, 5], [])
  | 7 => some ([], [])
  | _ => none
def f22_C : Fns := noC
theorem f22_Cok : CsOk Try.prog (f22_C) := noC_ok
def f22_cx : Cx := mkCx (tabOf rows) (f22_C) md (cmpIn cmps) f22_plan (f22_Cok)
def f22_S1 (v : Int × Int) : St := ⟨[(.v (CV.int .i64 v.1)), .undef, .undef, .undef, .undef, (.v (CV.int .i64 v.2)), .undef, .undef, .undef, .undef, .undef, .undef, .undef, .undef], []⟩
def f22_T1 {X : Type} (k : Nat) (K : Int × Bool → Option X)   (rec1 : Int × Int → Option X) (v4_0 : Int × Int) : Option X :=
(bif (decide (v4_0.2 < 7)) then
grd (decide (0 ≤ v4_0.2)) <|
(bif ((IntKind.wrap .i64 (16 * 2 ^ (min (Int.toNat v4_0.2) 64))) == v4_0.1) then
K (v4_0.2, true)
else
rec1 (v4_0.1, (IntKind.wrap .i64 (v4_0.2 + 1))))
else
K (0, false))
def f22_L1 {X : Type} (k : Nat) (K : Int × Bool → Option X)  (rec1 : Int × Int → Option X) (v : Int × Int) : Option X := f22_T1 k K   rec1 v
set_option maxRecDepth 100000 in
theorem f22_L1_ev {X : Type} (k : Nat) (K : Out → Option X)  (r1 : St → Option X) (v : Int × Int) : loopB (f22_cx) k [.r, .l, .r, .b] (Try.f22.body.getD .skip) (retK (f22_cx) [] Try.f22.results.toList K) [] r1 (f22_S1 v) = f22_T1 k (fun u => K (f22_out u))   (fun v => r1 (f22_S1 v)) v := by kernel_rfl
theorem f22_L1_it {X : Type} (k : Nat) (K : Out → Option X)  : (fun v => iter (loopB (f22_cx) k [.r, .l, .r, .b] (Try.f22.body.getD .skip) (retK (f22_cx) [] Try.f22.results.toList K) []) k (f22_S1 v)) = iterV (f22_L1 k (fun u => K (f22_out u)) ) k :=
  iter_map (fun r1 v => (f22_L1_ev k K  r1 v).trans rfl) k
def f22_T {X : Type} (k : Nat) (K : Int × Bool → Option X) (loop1 : Int × Int → Option X) (x0 : Int) : Option X :=
loop1 (x0, 0)
/-- "outpost/block.scale" -/
def f22_A (k : Nat) : f22_R := fun X K x0 => f22_T k K (iterV (f22_L1 k K) k) x0
set_option maxRecDepth 100000 in
theorem f22_ev' {X : Type} (k : Nat) (K : Out → Option X) (x0 : Int) : evFn (f22_cx) [] k Try.f22.ntmps Try.f22.results.toList (Try.f22.body.getD .skip) [(.v (CV.int .i64 x0))] [] K = f22_T k (fun u => K (f22_out u)) (fun v => iter (loopB (f22_cx) k [.r, .l, .r, .b] (Try.f22.body.getD .skip) (retK (f22_cx) [] Try.f22.results.toList K) []) k (f22_S1 v)) x0 := by kernel_rfl
theorem f22_ev {X : Type} (k : Nat) (K : Out → Option X) (x0 : Int) : evFn (f22_cx) [] k Try.f22.ntmps Try.f22.results.toList (Try.f22.body.getD .skip) [(.v (CV.int .i64 x0))] [] K = f22_A k X (fun u => K (f22_out u)) x0 := (f22_ev' k K x0).trans (by rw [f22_L1_it k K]; rfl)
theorem f22_okA (k : Nat) : AnsOk Try.prog 22 (f22_cOf (f22_A k)) := by
  intro X xs ns K x h
  unfold f22_cOf at h ⊢
  split at h
  · exact ans_main S (f22_Cok) Try.func22 (ent_of Try.func22 (by kernel_rfl) rfl) rfl (fun X K => f22_ev k K _) h
  · cases h
/-- "outpost/block.scale" -/
def f22 {X : Type} (k : Nat) (K : Int × Bool → Option X) (x0 : Int) : Option X := f22_A k X K x0
theorem f22_ok (k : Nat) : AnsOk Try.prog 22 (f22_cOf (fun X => @f22 X k)) := f22_okA k
abbrev f20_R : Type 1 := (X : Type) → (Bool → Option X) → Int → Int → Option X
def f20_out (u : Bool) : Out := ⟨(.v (CV.bool u)), []⟩
def f20_cOf (R : f20_R) : FnC := fun X xs ns K => match xs, ns with
  | [(.v (CV.int .i64 x0)), (.v (CV.int .i64 x1))], [] => R X (fun u => K (f20_out u)) x0 x1
  | _, _ => none
def f20_plan : Nat → Option (List Nat × List Wk)
  | 0 => some ([0, 1], [])
  | 1 => some ([0, 1], [])
  | 2 => some ([0, 6], [])
  | _ => none
def f20_C (R_f22 : f22_R) : Fns := (orC 22 (f22_cOf R_f22) noC)
theorem f20_Cok (R_f22 : f22_R) (hR_f22 : AnsOk Try.prog 22 (f22_cOf R_f22)) : CsOk Try.prog (f20_C R_f22) := (orC_ok hR_f22 noC_ok)
def f20_cx (R_f22 : f22_R) (hR_f22 : AnsOk Try.prog 22 (f22_cOf R_f22)) : Cx := mkCx (tabOf rows) (f20_C R_f22) md (cmpIn cmps) f20_plan (f20_Cok R_f22 hR_f22)
def f20_T {X : Type} (R_f22 : f22_R) (k : Nat) (K : Bool → Option X)  (x0 : Int) (x1 : Int) : Option X :=
R_f22 _ (fun u1 =>
(bif u1.2 then
(bif (decide (x0 ≥ 0)) then
K ((decide (x0 ≤ 1048575)))
else
K (false))
else
K (false))) (x1)
/-- "outpost/block.right" -/
def f20_A (R_f22 : f22_R) (k : Nat) : f20_R := fun X K x0 x1 => f20_T R_f22 k K  x0 x1
set_option maxRecDepth 100000 in
theorem f20_ev' {X : Type} (R_f22 : f22_R) (hR_f22 : AnsOk Try.prog 22 (f22_cOf R_f22)) (k : Nat) (K : Out → Option X) (x0 : Int) (x1 : Int) : evFn (f20_cx R_f22 hR_f22) [] k Try.f20.ntmps Try.f20.results.toList (Try.f20.body.getD .skip) [(.v (CV.int .i64 x0)), (.v (CV.int .i64 x1))] [] K = f20_T R_f22 k (fun u => K (f20_out u)) x0 x1 := by kernel_rfl
theorem f20_ev {X : Type} (R_f22 : f22_R) (hR_f22 : AnsOk Try.prog 22 (f22_cOf R_f22)) (k : Nat) (K : Out → Option X) (x0 : Int) (x1 : Int) : evFn (f20_cx R_f22 hR_f22) [] k Try.f20.ntmps Try.f20.results.toList (Try.f20.body.getD .skip) [(.v (CV.int .i64 x0)), (.v (CV.int .i64 x1))] [] K = f20_A R_f22 k X (fun u => K (f20_out u)) x0 x1 := (f20_ev' R_f22 hR_f22 k K x0 x1).trans rfl
theorem f20_okA (R_f22 : f22_R) (hR_f22 : AnsOk Try.prog 22 (f22_cOf R_f22)) (k : Nat) : AnsOk Try.prog 20 (f20_cOf (f20_A R_f22 k)) := by
  intro X xs ns K x h
  unfold f20_cOf at h ⊢
  split at h
  · exact ans_main S (f20_Cok R_f22 hR_f22) Try.func20 (ent_of Try.func20 (by kernel_rfl) rfl) rfl (fun X K => f20_ev R_f22 hR_f22 k K _ _) h
  · cases h
/-- "outpost/block.right" -/
def f20 {X : Type} (k : Nat) (K : Bool → Option X) (x0 : Int) (x1 : Int) : Option X := f20_A (fun X => @f22 X k) k X K x0 x1
theorem f20_ok (k : Nat) : AnsOk Try.prog 20 (f20_cOf (fun X => @f20 X k)) := f20_okA (fun X => @f22 X k) (f22_ok k) k
abbrev f6_R : Type 1 := (X : Type) → (Nat × Bool × Bool × (List CV) → Option X) → (List CV) → Int → Int → Option X
def f6_out (u : Nat × Bool × Bool × (List CV)) : Out := ⟨(.tup [(.osl [0, 2000] none 0 u.1), (.v (CV.bool u.2.1)), (.v (CV.bool u.2.2.1))]), [([0, 2000], (.row false none u.2.2.2))]⟩
def f6_cOf (R : f6_R) : FnC := fun X xs ns K => match xs, ns with
  | [(.sl false none x0), (.v (CV.int .i64 x1)), (.v (CV.int .i64 x2))], [] => R X (fun u => K (f6_out u)) x0 x1 x2
  | _, _ => none
def f6_plan : Nat → Option (List Nat × List Wk)
  | 0 => some ([0, 1, 2], [])
  | 1 => some ([0, 1, 2], [])
  | 2 => some ([], [])
  | 3 => some ([0, 1, 2], [])
  | 4 => some ([0, 1, 2, 9], [])
  | 5 => some ([], [])
  | 6 => some ([0, 2, 9], [])
  | 7 => some ([0, 9, 10], [])
  | _ => none
def f6_C (R_f20 : f20_R) (R_f21 : f21_R) : Fns := (orC 20 (f20_cOf R_f20) (orC 21 (f21_cOf R_f21) noC))
theorem f6_Cok (R_f20 : f20_R) (R_f21 : f21_R) (hR_f20 : AnsOk Try.prog 20 (f20_cOf R_f20)) (hR_f21 : AnsOk Try.prog 21 (f21_cOf R_f21)) : CsOk Try.prog (f6_C R_f20 R_f21) := (orC_ok hR_f20 (orC_ok hR_f21 noC_ok))
def f6_cx (R_f20 : f20_R) (R_f21 : f21_R) (hR_f20 : AnsOk Try.prog 20 (f20_cOf R_f20)) (hR_f21 : AnsOk Try.prog 21 (f21_cOf R_f21)) : Cx := mkCx (tabOf rows) (f6_C R_f20 R_f21) md (cmpIn cmps) f6_plan (f6_Cok R_f20 R_f21 hR_f20 hR_f21)
def f6_J1 {X : Type} (R_f20 : f20_R) (R_f21 : f21_R) (k : Nat) (K : Nat × Bool × Bool × (List CV) → Option X) (x0 : List CV) (x1 : Int) (x2 : Int) (v3 : Unit) : Option X :=
grd (decide (0 ≤ (IntKind.wrap .i64 (x1 * x2)))) <|
grd (decide ((IntKind.wrap .i64 (x1 * x2)) ≤ (if (IntKind.wrap .i64 ((IntKind.wrap .i64 (x1 * x2)) + x2)) < (Nat.cast ((List.length x0)) : Int) then (IntKind.wrap .i64 ((IntKind.wrap .i64 (x1 * x2)) + x2)) else (Nat.cast ((List.length x0)) : Int)))) <|
grd (decide ((if (IntKind.wrap .i64 ((IntKind.wrap .i64 (x1 * x2)) + x2)) < (Nat.cast ((List.length x0)) : Int) then (IntKind.wrap .i64 ((IntKind.wrap .i64 (x1 * x2)) + x2)) else (Nat.cast ((List.length x0)) : Int)) ≤ (Nat.cast ((List.length x0)) : Int))) <|
R_f21 _ (fun u4 =>
K ((List.length u4), (decide ((if (IntKind.wrap .i64 ((IntKind.wrap .i64 (x1 * x2)) + x2)) < (Nat.cast ((List.length x0)) : Int) then (IntKind.wrap .i64 ((IntKind.wrap .i64 (x1 * x2)) + x2)) else (Nat.cast ((List.length x0)) : Int)) < (Nat.cast ((List.length x0)) : Int))), true, (List.take (0 + (List.length u4)) u4))) ((List.take ((Int.toNat (if (IntKind.wrap .i64 ((IntKind.wrap .i64 (x1 * x2)) + x2)) < (Nat.cast ((List.length x0)) : Int) then (IntKind.wrap .i64 ((IntKind.wrap .i64 (x1 * x2)) + x2)) else (Nat.cast ((List.length x0)) : Int))) - (Int.toNat (IntKind.wrap .i64 (x1 * x2)))) (List.drop (Int.toNat (IntKind.wrap .i64 (x1 * x2))) x0)))
def f6_T {X : Type} (R_f20 : f20_R) (R_f21 : f21_R) (k : Nat) (K : Nat × Bool × Bool × (List CV) → Option X)  (x0 : List CV) (x1 : Int) (x2 : Int) : Option X :=
R_f20 _ (fun u2 =>
(bif (!u2) then
K (0, false, false, (List.take 0 []))
else
(bif (decide ((IntKind.wrap .i64 (x1 * x2)) ≥ (Nat.cast ((List.length x0)) : Int))) then
(bif (decide (x1 > 0)) then
K (0, false, false, (List.take 0 []))
else
f6_J1 R_f20 R_f21 k K x0 x1 x2 (()))
else
f6_J1 R_f20 R_f21 k K x0 x1 x2 (())))) (x1) (x2)
/-- "outpost/block.Cut" -/
def f6_A (R_f20 : f20_R) (R_f21 : f21_R) (k : Nat) : f6_R := fun X K x0 x1 x2 => f6_T R_f20 R_f21 k K  x0 x1 x2
set_option maxRecDepth 100000 in
theorem f6_ev' {X : Type} (R_f20 : f20_R) (R_f21 : f21_R) (hR_f20 : AnsOk Try.prog 20 (f20_cOf R_f20)) (hR_f21 : AnsOk Try.prog 21 (f21_cOf R_f21)) (k : Nat) (K : Out → Option X) (x0 : List CV) (x1 : Int) (x2 : Int) : evFn (f6_cx R_f20 R_f21 hR_f20 hR_f21) [⟨0, [0], some [0, 2000]⟩] k Try.f6.ntmps Try.f6.results.toList (Try.f6.body.getD .skip) [(.sl false none x0), (.v (CV.int .i64 x1)), (.v (CV.int .i64 x2))] [] K = f6_T R_f20 R_f21 k (fun u => K (f6_out u)) x0 x1 x2 := by kernel_rfl
theorem f6_ev {X : Type} (R_f20 : f20_R) (R_f21 : f21_R) (hR_f20 : AnsOk Try.prog 20 (f20_cOf R_f20)) (hR_f21 : AnsOk Try.prog 21 (f21_cOf R_f21)) (k : Nat) (K : Out → Option X) (x0 : List CV) (x1 : Int) (x2 : Int) : evFn (f6_cx R_f20 R_f21 hR_f20 hR_f21) [⟨0, [0], some [0, 2000]⟩] k Try.f6.ntmps Try.f6.results.toList (Try.f6.body.getD .skip) [(.sl false none x0), (.v (CV.int .i64 x1)), (.v (CV.int .i64 x2))] [] K = f6_A R_f20 R_f21 k X (fun u => K (f6_out u)) x0 x1 x2 := (f6_ev' R_f20 R_f21 hR_f20 hR_f21 k K x0 x1 x2).trans rfl
theorem f6_okA (R_f20 : f20_R) (R_f21 : f21_R) (hR_f20 : AnsOk Try.prog 20 (f20_cOf R_f20)) (hR_f21 : AnsOk Try.prog 21 (f21_cOf R_f21)) (k : Nat) : AnsOk Try.prog 6 (f6_cOf (f6_A R_f20 R_f21 k)) := by
  intro X xs ns K x h
  unfold f6_cOf at h ⊢
  split at h
  · exact ans_main S (f6_Cok R_f20 R_f21 hR_f20 hR_f21) Try.func6 (ent_of Try.func6 (by kernel_rfl) rfl) rfl (fun X K => f6_ev R_f20 R_f21 hR_f20 hR_f21 k K _ _ _) h
  · cases h
/-- "outpost/block.Cut" -/
def f6 {X : Type} (k : Nat) (K : Nat × Bool × Bool × (List CV) → Option X) (x0 : List CV) (x1 : Int) (x2 : Int) : Option X := f6_A (fun X => @f20 X k) (fun X => @f21 X k) k X K x0 x1 x2
theorem f6_ok (k : Nat) : AnsOk Try.prog 6 (f6_cOf (fun X => @f6 X k)) := f6_okA (fun X => @f20 X k) (fun X => @f21 X k) (f20_ok k) (f21_ok k) k
abbrev f39_R : Type 1 := (X : Type) → ((List CV) → Option X) → Nat → (List CV) → Option X
def f39_out (u : (List CV)) : Out := ⟨(.tup []), [([1000], (.row false none u))]⟩
def f39_cOf (R : f39_R) : FnC := fun X xs ns K => match xs, ns with
  | [(.osl [1000] none 0 x0)], [([1000], (.row false none x1))] => R X (fun u => K (f39_out u)) x0 x1
  | _, _ => none
def f39_plan : Nat → Option (List Nat × List Wk)
  | 0 => some ([0], [])
  | 1 => some ([0, 2, 3], [])
  | 2 => some ([0, 2, 3], [])
  | 3 => some ([0, 2, 3], [])
  | _ => none
def f39_C : Fns := noC
theorem f39_Cok : CsOk Try.prog (f39_C) := noC_ok
def f39_cx : Cx := mkCx (tabOf rows) (f39_C) md (cmpIn cmps) f39_plan (f39_Cok)
def f39_S1 (v : Nat × Int × Int × (List CV)) : St := ⟨[(.osl [1000] none 0 v.1), .undef, (.v (CV.int .i64 v.2.1)), (.v (CV.int .i64 v.2.2.1)), .undef, .undef, .undef, .undef, .undef, .undef, .undef, .undef, .undef, .undef, .undef, .undef, .undef, .undef, .undef, .undef, .undef, .undef, .undef, .undef, .undef, .undef, .undef, .undef], [([1000], (.row false none v.2.2.2))]⟩
def f39_T1 {X : Type} (k : Nat) (K : (List CV) → Option X)   (rec1 : Nat × Int × Int × (List CV) → Option X) (v2_0 : Nat × Int × Int × (List CV)) : Option X :=
(bif (decide (v2_0.2.1 < v2_0.2.2.1)) then
grd (decide (0 ≤ v2_0.2.2.1)) <|
grd (decide (v2_0.2.2.1 < (Nat.cast (v2_0.1) : Int))) <|
Option.bind (v2_0.2.2.2)[(0 + (Int.toNat v2_0.2.2.1))]? fun e8 =>
grd (CV.isI .u8 e8) <|
grd (decide (0 ≤ v2_0.2.1)) <|
grd (decide (v2_0.2.1 < (Nat.cast (v2_0.1) : Int))) <|
Option.bind (v2_0.2.2.2)[(0 + (Int.toNat v2_0.2.1))]? fun e9 =>
grd (CV.isI .u8 e9) <|
grd (decide (0 ≤ v2_0.2.1)) <|
grd (decide (v2_0.2.1 < (Nat.cast (v2_0.1) : Int))) <|
grd (decide ((0 + (Int.toNat v2_0.2.1)) < (List.length v2_0.2.2.2))) <|
grd (decide (0 ≤ v2_0.2.2.1)) <|
grd (decide (v2_0.2.2.1 < (Nat.cast (v2_0.1) : Int))) <|
grd (decide ((0 + (Int.toNat v2_0.2.2.1)) < (List.length (List.set v2_0.2.2.2 (0 + (Int.toNat v2_0.2.1)) (CV.int .u8 (CV.toI e8)))))) <|
rec1 (v2_0.1, (IntKind.wrap .i64 (v2_0.2.1 + 1)), (IntKind.wrap .i64 (v2_0.2.2.1 - 1)), (List.set (List.set v2_0.2.2.2 (0 + (Int.toNat v2_0.2.1)) (CV.int .u8 (CV.toI e8))) (0 + (Int.toNat v2_0.2.2.1)) (CV.int .u8 (CV.toI e9))))
else
K (v2_0.2.2.2))
def f39_L1 {X : Type} (k : Nat) (K : (List CV) → Option X)  (rec1 : Nat × Int × Int × (List CV) → Option X) (v : Nat × Int × Int × (List CV)) : Option X := f39_T1 k K   rec1 v
set_option maxRecDepth 100000 in
theorem f39_L1_ev {X : Type} (k : Nat) (K : Out → Option X)  (r1 : St → Option X) (v : Nat × Int × Int × (List CV)) : loopB (f39_cx) k [.r, .b] (Try.f39.body.getD .skip) (retK (f39_cx) [] Try.f39.results.toList K) [] r1 (f39_S1 v) = f39_T1 k (fun u => K (f39_out u))   (fun v => r1 (f39_S1 v)) v := by kernel_rfl
theorem f39_L1_it {X : Type} (k : Nat) (K : Out → Option X)  : (fun v => iter (loopB (f39_cx) k [.r, .b] (Try.f39.body.getD .skip) (retK (f39_cx) [] Try.f39.results.toList K) []) k (f39_S1 v)) = iterV (f39_L1 k (fun u => K (f39_out u)) ) k :=
  iter_map (fun r1 v => (f39_L1_ev k K  r1 v).trans rfl) k
def f39_T {X : Type} (k : Nat) (K : (List CV) → Option X) (loop1 : Nat × Int × Int × (List CV) → Option X) (x0 : Nat) (x1 : List CV) : Option X :=
loop1 (x0, 0, (IntKind.wrap .i64 ((Nat.cast (x0) : Int) - 1)), x1)
/-- "slices.Reverse[[]byte,byte]" -/
def f39_A (k : Nat) : f39_R := fun X K x0 x1 => f39_T k K (iterV (f39_L1 k K) k) x0 x1
set_option maxRecDepth 100000 in
theorem f39_ev' {X : Type} (k : Nat) (K : Out → Option X) (x0 : Nat) (x1 : List CV) : evFn (f39_cx) [] k Try.f39.ntmps Try.f39.results.toList (Try.f39.body.getD .skip) [(.osl [1000] none 0 x0)] [([1000], (.row false none x1))] K = f39_T k (fun u => K (f39_out u)) (fun v => iter (loopB (f39_cx) k [.r, .b] (Try.f39.body.getD .skip) (retK (f39_cx) [] Try.f39.results.toList K) []) k (f39_S1 v)) x0 x1 := by kernel_rfl
theorem f39_ev {X : Type} (k : Nat) (K : Out → Option X) (x0 : Nat) (x1 : List CV) : evFn (f39_cx) [] k Try.f39.ntmps Try.f39.results.toList (Try.f39.body.getD .skip) [(.osl [1000] none 0 x0)] [([1000], (.row false none x1))] K = f39_A k X (fun u => K (f39_out u)) x0 x1 := (f39_ev' k K x0 x1).trans (by rw [f39_L1_it k K]; rfl)
theorem f39_okA (k : Nat) : AnsOk Try.prog 39 (f39_cOf (f39_A k)) := by
  intro X xs ns K x h
  unfold f39_cOf at h ⊢
  split at h
  · exact ans_main S (f39_Cok) Try.func39 (ent_of Try.func39 (by kernel_rfl) rfl) rfl (fun X K => f39_ev k K _ _) h
  · cases h
/-- "slices.Reverse[[]byte,byte]" -/
def f39 {X : Type} (k : Nat) (K : (List CV) → Option X) (x0 : Nat) (x1 : List CV) : Option X := f39_A k X K x0 x1
theorem f39_ok (k : Nat) : AnsOk Try.prog 39 (f39_cOf (fun X => @f39 X k)) := f39_okA k
abbrev f23_R : Type 1 := (X : Type) → (Nat × (List CV) → Option X) → Int → Option X
def f23_out (u : Nat × (List CV)) : Out := ⟨(.osl [2000] none 0 u.1), [([2000], (.row false none u.2))]⟩
def f23_cOf (R : f23_R) : FnC := fun X xs ns K => match xs, ns with
  | [(.v (CV.int .i64 x0))], [] => R X (fun u => K (f23_out u)) x0
  | _, _ => none
def f23_plan : Nat → Option (List Nat × List Wk)
  | 0 => some ([0], [])
  | 1 => some ([0], [])
  | 2 => some ([0, 3], [⟨3, [], some [3]⟩])
  | 3 => some ([0, 3], [])
  | 4 => some ([0, 3], [])
  | 5 => some ([3], [])
  | 6 => some ([3], [])
  | _ => none
def f23_C (R_f39 : f39_R) : Fns := (orC 39 (f39_cOf R_f39) noC)
theorem f23_Cok (R_f39 : f39_R) (hR_f39 : AnsOk Try.prog 39 (f39_cOf R_f39)) : CsOk Try.prog (f23_C R_f39) := (orC_ok hR_f39 noC_ok)
def f23_cx (R_f39 : f39_R) (hR_f39 : AnsOk Try.prog 39 (f39_cOf R_f39)) : Cx := mkCx (tabOf rows) (f23_C R_f39) md (cmpIn cmps) f23_plan (f23_Cok R_f39 hR_f39)
def f23_S1 (v : Int × Nat × (List CV)) : St := ⟨[(.v (CV.int .i64 v.1)), .undef, .undef, (.osl [3] none 0 v.2.1), .undef, .undef, .undef, .undef, .undef, .undef, .undef, .undef, .undef, .undef, .undef, .undef], [([3], (.row false none v.2.2))]⟩
def f23_T1 {X : Type} (R_f39 : f39_R) (k : Nat) (K : Nat × (List CV) → Option X)   (rec1 : Int × Nat × (List CV) → Option X) (v4_0 : Int × Nat × (List CV)) : Option X :=
(bif (decide (v4_0.1 > 0)) then
grd (decide ((v4_0.2.1 + (List.length (List.take 1 (List.drop 0 [(CV.int .u8 (IntKind.wrap .u8 v4_0.1))])))) * 1 ≤ 140737488355328)) <|
rec1 ((Int.fdiv v4_0.1 (2 ^ 8)), (v4_0.2.1 + (List.length (List.take 1 (List.drop 0 [(CV.int .u8 (IntKind.wrap .u8 v4_0.1))])))), ((List.take v4_0.2.1 v4_0.2.2) ++ (List.take 1 (List.drop 0 [(CV.int .u8 (IntKind.wrap .u8 v4_0.1))]))))
else
R_f39 _ (fun u2 =>
K (v4_0.2.1, (List.take (0 + v4_0.2.1) u2))) (v4_0.2.1) (v4_0.2.2))
def f23_L1 {X : Type} (R_f39 : f39_R) (k : Nat) (K : Nat × (List CV) → Option X)  (rec1 : Int × Nat × (List CV) → Option X) (v : Int × Nat × (List CV)) : Option X := f23_T1 R_f39 k K   rec1 v
set_option maxRecDepth 100000 in
theorem f23_L1_ev {X : Type} (R_f39 : f39_R) (hR_f39 : AnsOk Try.prog 39 (f39_cOf R_f39)) (k : Nat) (K : Out → Option X)  (r1 : St → Option X) (v : Int × Nat × (List CV)) : loopB (f23_cx R_f39 hR_f39) k [.r, .r, .l, .b] (Try.f23.body.getD .skip) (retK (f23_cx R_f39 hR_f39) [] Try.f23.results.toList K) [] r1 (f23_S1 v) = f23_T1 R_f39 k (fun u => K (f23_out u))   (fun v => r1 (f23_S1 v)) v := by kernel_rfl
theorem f23_L1_it {X : Type} (R_f39 : f39_R) (hR_f39 : AnsOk Try.prog 39 (f39_cOf R_f39)) (k : Nat) (K : Out → Option X)  : (fun v => iter (loopB (f23_cx R_f39 hR_f39) k [.r, .r, .l, .b] (Try.f23.body.getD .skip) (retK (f23_cx R_f39 hR_f39) [] Try.f23.results.toList K) []) k (f23_S1 v)) = iterV (f23_L1 R_f39 k (fun u => K (f23_out u)) ) k :=
  iter_map (fun r1 v => (f23_L1_ev R_f39 hR_f39 k K  r1 v).trans rfl) k
def f23_T {X : Type} (R_f39 : f39_R) (k : Nat) (K : Nat × (List CV) → Option X) (loop1 : Int × Nat × (List CV) → Option X) (x0 : Int) : Option X :=
loop1 (x0, 0, [])
/-- "outpost/opt.Uint" -/
def f23_A (R_f39 : f39_R) (k : Nat) : f23_R := fun X K x0 => f23_T R_f39 k K (iterV (f23_L1 R_f39 k K) k) x0
set_option maxRecDepth 100000 in
theorem f23_ev' {X : Type} (R_f39 : f39_R) (hR_f39 : AnsOk Try.prog 39 (f39_cOf R_f39)) (k : Nat) (K : Out → Option X) (x0 : Int) : evFn (f23_cx R_f39 hR_f39) [] k Try.f23.ntmps Try.f23.results.toList (Try.f23.body.getD .skip) [(.v (CV.int .i64 x0))] [] K = f23_T R_f39 k (fun u => K (f23_out u)) (fun v => iter (loopB (f23_cx R_f39 hR_f39) k [.r, .r, .l, .b] (Try.f23.body.getD .skip) (retK (f23_cx R_f39 hR_f39) [] Try.f23.results.toList K) []) k (f23_S1 v)) x0 := by kernel_rfl
theorem f23_ev {X : Type} (R_f39 : f39_R) (hR_f39 : AnsOk Try.prog 39 (f39_cOf R_f39)) (k : Nat) (K : Out → Option X) (x0 : Int) : evFn (f23_cx R_f39 hR_f39) [] k Try.f23.ntmps Try.f23.results.toList (Try.f23.body.getD .skip) [(.v (CV.int .i64 x0))] [] K = f23_A R_f39 k X (fun u => K (f23_out u)) x0 := (f23_ev' R_f39 hR_f39 k K x0).trans (by rw [f23_L1_it R_f39 hR_f39 k K]; rfl)
theorem f23_okA (R_f39 : f39_R) (hR_f39 : AnsOk Try.prog 39 (f39_cOf R_f39)) (k : Nat) : AnsOk Try.prog 23 (f23_cOf (f23_A R_f39 k)) := by
  intro X xs ns K x h
  unfold f23_cOf at h ⊢
  split at h
  · exact ans_main S (f23_Cok R_f39 hR_f39) Try.func23 (ent_of Try.func23 (by kernel_rfl) rfl) rfl (fun X K => f23_ev R_f39 hR_f39 k K _) h
  · cases h
/-- "outpost/opt.Uint" -/
def f23 {X : Type} (k : Nat) (K : Nat × (List CV) → Option X) (x0 : Int) : Option X := f23_A (fun X => @f39 X k) k X K x0
theorem f23_ok (k : Nat) : AnsOk Try.prog 23 (f23_cOf (fun X => @f23 X k)) := f23_okA (fun X => @f39 X k) (f39_ok k) k
abbrev f7_R : Type 1 := (X : Type) → (Nat × Int × (List CV) → Option X) → CV → Option X
def f7_out (u : Nat × Int × (List CV)) : Out := ⟨(.tup [(.osl [0, 2000] none 0 u.1), (.v (CV.int .i64 u.2.1))]), [([0, 2000], (.row false none u.2.2))]⟩
def f7_cOf (R : f7_R) : FnC := fun X xs ns K => match xs, ns with
  | [(.v x0)], [] => R X (fun u => K (f7_out u)) x0
  | _, _ => none
def f7_plan : Nat → Option (List Nat × List Wk)
  | 0 => some ([0], [])
  | 1 => some ([1], [])
  | 2 => some ([], [])
  | 3 => some ([1], [])
  | 4 => some ([1, 4], [])
  | 5 => some ([1, 6], [])
  | 6 => some ([6], [])
  | 7 => some ([6], [])
  | _ => none
def f7_C (R_f20 : f20_R) (R_f22 : f22_R) (R_f23 : f23_R) : Fns := (orC 20 (f20_cOf R_f20) (orC 22 (f22_cOf R_f22) (orC 23 (f23_cOf R_f23) noC)))
theorem f7_Cok (R_f20 : f20_R) (R_f22 : f22_R) (R_f23 : f23_R) (hR_f20 : AnsOk Try.prog 20 (f20_cOf R_f20)) (hR_f22 : AnsOk Try.prog 22 (f22_cOf R_f22)) (hR_f23 : AnsOk Try.prog 23 (f23_cOf R_f23)) : CsOk Try.prog (f7_C R_f20 R_f22 R_f23) := (orC_ok hR_f20 (orC_ok hR_f22 (orC_ok hR_f23 noC_ok)))
def f7_cx (R_f20 : f20_R) (R_f22 : f22_R) (R_f23 : f23_R) (hR_f20 : AnsOk Try.prog 20 (f20_cOf R_f20)) (hR_f22 : AnsOk Try.prog 22 (f22_cOf R_f22)) (hR_f23 : AnsOk Try.prog 23 (f23_cOf R_f23)) : Cx := mkCx (tabOf rows) (f7_C R_f20 R_f22 R_f23) md (cmpIn cmps) f7_plan (f7_Cok R_f20 R_f22 R_f23 hR_f20 hR_f22 hR_f23)
def f7_J1 {X : Type} (R_f20 : f20_R) (R_f22 : f22_R) (R_f23 : f23_R) (k : Nat) (K : Nat × Int × (List CV) → Option X)  (v4 : Int) : Option X :=
R_f23 _ (fun u5 =>
K (u5.1, 0, (List.take (0 + u5.1) u5.2))) (v4)
def f7_T {X : Type} (R_f20 : f20_R) (R_f22 : f22_R) (R_f23 : f23_R) (k : Nat) (K : Nat × Int × (List CV) → Option X)  (x0 : CV) : Option X :=
grd (CV.isA 3 x0) <|
grd (CV.isI .i64 (CV.cellD 0 x0)) <|
grd (CV.isB (CV.cellD 1 x0)) <|
grd (CV.isI .i64 (CV.cellD 2 x0)) <|
R_f20 _ (fun u2 =>
(bif (!u2) then
K (0, 1, (List.take 0 []))
else
R_f22 _ (fun u3 =>
(bif (CV.toB (CV.cellD 1 x0)) then
f7_J1 R_f20 R_f22 R_f23 k K ((bop .or .i64 (bop .or .i64 (IntKind.wrap .i64 ((CV.toI (CV.cellD 0 x0)) * 2 ^ 4)) u3.1) 8))
else
f7_J1 R_f20 R_f22 R_f23 k K ((bop .or .i64 (IntKind.wrap .i64 ((CV.toI (CV.cellD 0 x0)) * 2 ^ 4)) u3.1)))) ((CV.toI (CV.cellD 2 x0))))) ((CV.toI (CV.cellD 0 x0))) ((CV.toI (CV.cellD 2 x0)))
/-- "outpost/block.Write" -/
def f7_A (R_f20 : f20_R) (R_f22 : f22_R) (R_f23 : f23_R) (k : Nat) : f7_R := fun X K x0 => f7_T R_f20 R_f22 R_f23 k K  x0
set_option maxRecDepth 100000 in
theorem f7_ev' {X : Type} (R_f20 : f20_R) (R_f22 : f22_R) (R_f23 : f23_R) (hR_f20 : AnsOk Try.prog 20 (f20_cOf R_f20)) (hR_f22 : AnsOk Try.prog 22 (f22_cOf R_f22)) (hR_f23 : AnsOk Try.prog 23 (f23_cOf R_f23)) (k : Nat) (K : Out → Option X) (x0 : CV) : evFn (f7_cx R_f20 R_f22 R_f23 hR_f20 hR_f22 hR_f23) [⟨0, [0], some [0, 2000]⟩] k Try.f7.ntmps Try.f7.results.toList (Try.f7.body.getD .skip) [(.v x0)] [] K = f7_T R_f20 R_f22 R_f23 k (fun u => K (f7_out u)) x0 := by kernel_rfl
theorem f7_ev {X : Type} (R_f20 : f20_R) (R_f22 : f22_R) (R_f23 : f23_R) (hR_f20 : AnsOk Try.prog 20 (f20_cOf R_f20)) (hR_f22 : AnsOk Try.prog 22 (f22_cOf R_f22)) (hR_f23 : AnsOk Try.prog 23 (f23_cOf R_f23)) (k : Nat) (K : Out → Option X) (x0 : CV) : evFn (f7_cx R_f20 R_f22 R_f23 hR_f20 hR_f22 hR_f23) [⟨0, [0], some [0, 2000]⟩] k Try.f7.ntmps Try.f7.results.toList (Try.f7.body.getD .skip) [(.v x0)] [] K = f7_A R_f20 R_f22 R_f23 k X (fun u => K (f7_out u)) x0 := (f7_ev' R_f20 R_f22 R_f23 hR_f20 hR_f22 hR_f23 k K x0).trans rfl
theorem f7_okA (R_f20 : f20_R) (R_f22 : f22_R) (R_f23 : f23_R) (hR_f20 : AnsOk Try.prog 20 (f20_cOf R_f20)) (hR_f22 : AnsOk Try.prog 22 (f22_cOf R_f22)) (hR_f23 : AnsOk Try.prog 23 (f23_cOf R_f23)) (k : Nat) : AnsOk Try.prog 7 (f7_cOf (f7_A R_f20 R_f22 R_f23 k)) := by
  intro X xs ns K x h
  unfold f7_cOf at h ⊢
  split at h
  · exact ans_main S (f7_Cok R_f20 R_f22 R_f23 hR_f20 hR_f22 hR_f23) Try.func7 (ent_of Try.func7 (by kernel_rfl) rfl) rfl (fun X K => f7_ev R_f20 R_f22 R_f23 hR_f20 hR_f22 hR_f23 k K _) h
  · cases h
/-- "outpost/block.Write" -/
def f7 {X : Type} (k : Nat) (K : Nat × Int × (List CV) → Option X) (x0 : CV) : Option X := f7_A (fun X => @f20 X k) (fun X => @f22 X k) (fun X => @f23 X k) k X K x0
theorem f7_ok (k : Nat) : AnsOk Try.prog 7 (f7_cOf (fun X => @f7 X k)) := f7_okA (fun X => @f20 X k) (fun X => @f22 X k) (fun X => @f23 X k) (f20_ok k) (f22_ok k) (f23_ok k) k
abbrev f25_R : Type 1 := (X : Type) → (Bool → Option X) → CV → Int → Option X
def f25_out (u : Bool) : Out := ⟨(.v (CV.bool u)), []⟩
def f25_cOf (R : f25_R) : FnC := fun X xs ns K => match xs, ns with
  | [(.v x0), (.bptr none (CV.int .i64 x1) 0)], [] => R X (fun u => K (f25_out u)) x0 x1
  | _, _ => none
def f25_plan : Nat → Option (List Nat × List Wk)
  | 0 => some ([0, 1], [])
  | 1 => some ([1, 2], [])
  | _ => none
def f25_C : Fns := noC
theorem f25_Cok : CsOk Try.prog (f25_C) := noC_ok
def f25_cx : Cx := mkCx (tabOf rows) (f25_C) md (cmpIn cmps) f25_plan (f25_Cok)
def f25_T {X : Type} (k : Nat) (K : Bool → Option X)  (x0 : CV) (x1 : Int) : Option X :=
grd (CV.isA 2 x0) <|
grd (CV.isI .i64 (CV.cellD 0 x0)) <|
grd (CV.isL none (CV.cellD 1 x0)) <|
K ((decide ((CV.toI (CV.cellD 0 x0)) > x1)))
/-- "outpost/opt.Add$1" -/
def f25_A (k : Nat) : f25_R := fun X K x0 x1 => f25_T k K  x0 x1
set_option maxRecDepth 100000 in
theorem f25_ev' {X : Type} (k : Nat) (K : Out → Option X) (x0 : CV) (x1 : Int) : evFn (f25_cx) [] k Try.f25.ntmps Try.f25.results.toList (Try.f25.body.getD .skip) [(.v x0), (.bptr none (CV.int .i64 x1) 0)] [] K = f25_T k (fun u => K (f25_out u)) x0 x1 := by kernel_rfl
theorem f25_ev {X : Type} (k : Nat) (K : Out → Option X) (x0 : CV) (x1 : Int) : evFn (f25_cx) [] k Try.f25.ntmps Try.f25.results.toList (Try.f25.body.getD .skip) [(.v x0), (.bptr none (CV.int .i64 x1) 0)] [] K = f25_A k X (fun u => K (f25_out u)) x0 x1 := (f25_ev' k K x0 x1).trans rfl
theorem f25_okA (k : Nat) : AnsOk Try.prog 25 (f25_cOf (f25_A k)) := by
  intro X xs ns K x h
  unfold f25_cOf at h ⊢
  split at h
  · exact ans_main S (f25_Cok) Try.func25 (ent_of Try.func25 (by kernel_rfl) rfl) rfl (fun X K => f25_ev k K _ _) h
  · cases h
/-- "outpost/opt.Add$1" -/
def f25 {X : Type} (k : Nat) (K : Bool → Option X) (x0 : CV) (x1 : Int) : Option X := f25_A k X K x0 x1
theorem f25_ok (k : Nat) : AnsOk Try.prog 25 (f25_cOf (fun X => @f25 X k)) := f25_okA k
abbrev f24c_R : Type 1 := (X : Type) → (Int → Option X) → (List CV) → Int → Option X
def f24c_out (u : Int) : Out := ⟨(.v (CV.int .i64 u)), []⟩
def f24c_cOf (R : f24c_R) : FnC := fun X xs ns K => match xs, ns with
  | [(.sl false (some 2) x0), (.fn 25 [(.bptr none (CV.int .i64 x1) 0)])], [] => R X (fun u => K (f24c_out u)) x0 x1
  | _, _ => none
def f24c_is (xs : List AVal) (ns : Nodes) : Bool := match xs, ns with
  | [(.sl false (some 2) x0), (.fn 25 [(.bptr none (CV.int .i64 x1) 0)])], [] => true
  | _, _ => false
def f24c_plan : Nat → Option (List Nat × List Wk)
  | 0 => some ([0, 1], [])
  | 1 => some ([0, 1], [])
  | 2 => some ([0, 1, 7, 8], [])
  | 3 => some ([0, 1, 7, 8], [])
  | 4 => some ([0, 1, 5, 7, 8], [])
  | 5 => some ([5], [])
  | 6 => some ([0, 1, 7, 8], [])
  | 7 => some ([], [])
  | _ => none
def f24c_C (R_f25 : f25_R) : Fns := (orC 25 (f25_cOf R_f25) noC)
theorem f24c_Cok (R_f25 : f25_R) (hR_f25 : AnsOk Try.prog 25 (f25_cOf R_f25)) : CsOk Try.prog (f24c_C R_f25) := (orC_ok hR_f25 noC_ok)
def f24c_cx (R_f25 : f25_R) (hR_f25 : AnsOk Try.prog 25 (f25_cOf R_f25)) : Cx := mkCx (tabOf rows) (f24c_C R_f25) md (cmpIn cmps) f24c_plan (f24c_Cok R_f25 hR_f25)
def f24c_S1 (v : (List CV) × Int × Int × Int) : St := ⟨[(.sl false (some 2) v.1), (.fn 25 [(.bptr none (CV.int .i64 v.2.1) 0)]), .undef, .undef, .undef, .undef, .undef, (.v (CV.int .i64 v.2.2.1)), (.v (CV.int .i64 v.2.2.2)), .undef, .undef, .undef, .undef, .undef, .undef, .undef, .undef, .undef, .undef], []⟩
def f24c_T1 {X : Type} (R_f25 : f25_R) (k : Nat) (K : Int → Option X)   (rec1 : (List CV) × Int × Int × Int → Option X) (v4_0 : (List CV) × Int × Int × Int) : Option X :=
(bif (decide (v4_0.2.2.2 < v4_0.2.2.1)) then
grd (decide (0 ≤ v4_0.2.2.2)) <|
Option.bind (v4_0.1)[(Int.toNat v4_0.2.2.2)]? fun e8 =>
R_f25 _ (fun u9 =>
(bif u9 then
K (v4_0.2.2.2)
else
rec1 (v4_0.1, v4_0.2.1, v4_0.2.2.1, (IntKind.wrap .i64 (v4_0.2.2.2 + 1))))) (e8) (v4_0.2.1)
else
K ((-1)))
def f24c_L1 {X : Type} (R_f25 : f25_R) (k : Nat) (K : Int → Option X)  (rec1 : (List CV) × Int × Int × Int → Option X) (v : (List CV) × Int × Int × Int) : Option X := f24c_T1 R_f25 k K   rec1 v
set_option maxRecDepth 100000 in
theorem f24c_L1_ev {X : Type} (R_f25 : f25_R) (hR_f25 : AnsOk Try.prog 25 (f25_cOf R_f25)) (k : Nat) (K : Out → Option X)  (r1 : St → Option X) (v : (List CV) × Int × Int × Int) : loopB (f24c_cx R_f25 hR_f25) k [.r, .l, .r, .b] (Try.f24.body.getD .skip) (retK (f24c_cx R_f25 hR_f25) [] Try.f24.results.toList K) [] r1 (f24c_S1 v) = f24c_T1 R_f25 k (fun u => K (f24c_out u))   (fun v => r1 (f24c_S1 v)) v := by kernel_rfl
theorem f24c_L1_it {X : Type} (R_f25 : f25_R) (hR_f25 : AnsOk Try.prog 25 (f25_cOf R_f25)) (k : Nat) (K : Out → Option X)  : (fun v => iter (loopB (f24c_cx R_f25 hR_f25) k [.r, .l, .r, .b] (Try.f24.body.getD .skip) (retK (f24c_cx R_f25 hR_f25) [] Try.f24.results.toList K) []) k (f24c_S1 v)) = iterV (f24c_L1 R_f25 k (fun u => K (f24c_out u)) ) k :=
  iter_map (fun r1 v => (f24c_L1_ev R_f25 hR_f25 k K  r1 v).trans rfl) k
def f24c_T {X : Type} (R_f25 : f25_R) (k : Nat) (K : Int → Option X) (loop1 : (List CV) × Int × Int × Int → Option X) (x0 : List CV) (x1 : Int) : Option X :=
loop1 (x0, x1, (Nat.cast ((List.length x0)) : Int), 0)
/-- "slices.IndexFunc[[]outpost/api.Opt,outpost/api.Opt]" -/
def f24c_A (R_f25 : f25_R) (k : Nat) : f24c_R := fun X K x0 x1 => f24c_T R_f25 k K (iterV (f24c_L1 R_f25 k K) k) x0 x1
set_option maxRecDepth 100000 in
theorem f24c_ev' {X : Type} (R_f25 : f25_R) (hR_f25 : AnsOk Try.prog 25 (f25_cOf R_f25)) (k : Nat) (K : Out → Option X) (x0 : List CV) (x1 : Int) : evFn (f24c_cx R_f25 hR_f25) [] k Try.f24.ntmps Try.f24.results.toList (Try.f24.body.getD .skip) [(.sl false (some 2) x0), (.fn 25 [(.bptr none (CV.int .i64 x1) 0)])] [] K = f24c_T R_f25 k (fun u => K (f24c_out u)) (fun v => iter (loopB (f24c_cx R_f25 hR_f25) k [.r, .l, .r, .b] (Try.f24.body.getD .skip) (retK (f24c_cx R_f25 hR_f25) [] Try.f24.results.toList K) []) k (f24c_S1 v)) x0 x1 := by kernel_rfl
theorem f24c_ev {X : Type} (R_f25 : f25_R) (hR_f25 : AnsOk Try.prog 25 (f25_cOf R_f25)) (k : Nat) (K : Out → Option X) (x0 : List CV) (x1 : Int) : evFn (f24c_cx R_f25 hR_f25) [] k Try.f24.ntmps Try.f24.results.toList (Try.f24.body.getD .skip) [(.sl false (some 2) x0), (.fn 25 [(.bptr none (CV.int .i64 x1) 0)])] [] K = f24c_A R_f25 k X (fun u => K (f24c_out u)) x0 x1 := (f24c_ev' R_f25 hR_f25 k K x0 x1).trans (by rw [f24c_L1_it R_f25 hR_f25 k K]; rfl)
theorem f24c_okA (R_f25 : f25_R) (hR_f25 : AnsOk Try.prog 25 (f25_cOf R_f25)) (k : Nat) : AnsOk Try.prog 24 (f24c_cOf (f24c_A R_f25 k)) := by
  intro X xs ns K x h
  unfold f24c_cOf at h ⊢
  split at h
  · exact ans_main S (f24c_Cok R_f25 hR_f25) Try.func24 (ent_of Try.func24 (by kernel_rfl) rfl) rfl (fun X K => f24c_ev R_f25 hR_f25 k K _ _) h
  · cases h
/-- "slices.IndexFunc[[]outpost/api.Opt,outpost/api.Opt]" -/
def f24c {X : Type} (k : Nat) (K : Int → Option X) (x0 : List CV) (x1 : Int) : Option X := f24c_A (fun X => @f25 X k) k X K x0 x1
theorem f24c_ok (k : Nat) : AnsOk Try.prog 24 (f24c_cOf (fun X => @f24c X k)) := f24c_okA (fun X => @f25 X k) (f25_ok k) k
abbrev f26_R : Type 1 := (X : Type) → (Int × Nat × (List CV) → Option X) → CV → Option X
def f26_out (u : Int × Nat × (List CV)) : Out := ⟨(.agg [(.v (CV.int .i64 u.1)), (.osl [1, 2000] none 0 u.2.1)]), [([1, 2000], (.row false none u.2.2))]⟩
def f26_cOf (R : f26_R) : FnC := fun X xs ns K => match xs, ns with
  | [(.v x0)], [] => R X (fun u => K (f26_out u)) x0
  | _, _ => none
def f26_plan : Nat → Option (List Nat × List Wk)
  | 0 => some ([0], [])
  | 1 => some ([1, 2], [])
  | _ => none
def f26_C (R_f21 : f21_R) : Fns := (orC 21 (f21_cOf R_f21) noC)
theorem f26_Cok (R_f21 : f21_R) (hR_f21 : AnsOk Try.prog 21 (f21_cOf R_f21)) : CsOk Try.prog (f26_C R_f21) := (orC_ok hR_f21 noC_ok)
def f26_cx (R_f21 : f21_R) (hR_f21 : AnsOk Try.prog 21 (f21_cOf R_f21)) : Cx := mkCx (tabOf rows) (f26_C R_f21) md (cmpIn cmps) f26_plan (f26_Cok R_f21 hR_f21)
def f26_T {X : Type} (R_f21 : f21_R) (k : Nat) (K : Int × Nat × (List CV) → Option X)  (x0 : CV) : Option X :=
grd (CV.isA 2 x0) <|
grd (CV.isI .i64 (CV.cellD 0 x0)) <|
grd (CV.isL none (CV.cellD 1 x0)) <|
R_f21 _ (fun u1 =>
K ((CV.toI (CV.cellD 0 x0)), (List.length u1), (List.take (0 + (List.length u1)) u1))) ((CV.toL (CV.cellD 1 x0)))
/-- "outpost/opt.copied" -/
def f26_A (R_f21 : f21_R) (k : Nat) : f26_R := fun X K x0 => f26_T R_f21 k K  x0
set_option maxRecDepth 100000 in
theorem f26_ev' {X : Type} (R_f21 : f21_R) (hR_f21 : AnsOk Try.prog 21 (f21_cOf R_f21)) (k : Nat) (K : Out → Option X) (x0 : CV) : evFn (f26_cx R_f21 hR_f21) [] k Try.f26.ntmps Try.f26.results.toList (Try.f26.body.getD .skip) [(.v x0)] [] K = f26_T R_f21 k (fun u => K (f26_out u)) x0 := by kernel_rfl
theorem f26_ev {X : Type} (R_f21 : f21_R) (hR_f21 : AnsOk Try.prog 21 (f21_cOf R_f21)) (k : Nat) (K : Out → Option X) (x0 : CV) : evFn (f26_cx R_f21 hR_f21) [] k Try.f26.ntmps Try.f26.results.toList (Try.f26.body.getD .skip) [(.v x0)] [] K = f26_A R_f21 k X (fun u => K (f26_out u)) x0 := (f26_ev' R_f21 hR_f21 k K x0).trans rfl
theorem f26_okA (R_f21 : f21_R) (hR_f21 : AnsOk Try.prog 21 (f21_cOf R_f21)) (k : Nat) : AnsOk Try.prog 26 (f26_cOf (f26_A R_f21 k)) := by
  intro X xs ns K x h
  unfold f26_cOf at h ⊢
  split at h
  · exact ans_main S (f26_Cok R_f21 hR_f21) Try.func26 (ent_of Try.func26 (by kernel_rfl) rfl) rfl (fun X K => f26_ev R_f21 hR_f21 k K _) h
  · cases h
/-- "outpost/opt.copied" -/
def f26 {X : Type} (k : Nat) (K : Int × Nat × (List CV) → Option X) (x0 : CV) : Option X := f26_A (fun X => @f21 X k) k X K x0
theorem f26_ok (k : Nat) : AnsOk Try.prog 26 (f26_cOf (fun X => @f26 X k)) := f26_okA (fun X => @f21 X k) (f21_ok k) k
abbrev f27_R : Type 1 := (X : Type) → (Nat × (List CV) → Option X) → Nat → Int → (List CV) → (List CV) → Option X
def f27_out (u : Nat × (List CV)) : Out := ⟨(.osl [2000] (some 2) 0 u.1), [([2000], (.row false (some 2) u.2))]⟩
def f27_cOf (R : f27_R) : FnC := fun X xs ns K => match xs, ns with
  | [(.osl [1000] (some 2) 0 x0), (.v (CV.int .i64 x1)), (.sl false (some 2) x2)], [([1000], (.row false (some 2) x3))] => R X (fun u => K (f27_out u)) x0 x1 x2 x3
  | _, _ => none
def f27_plan : Nat → Option (List Nat × List Wk)
  | 0 => some ([0, 1, 2], [])
  | 1 => some ([0, 1, 2], [])
  | 2 => some ([0, 1, 2], [])
  | 3 => some ([0, 1, 2, 7], [])
  | 4 => some ([0], [])
  | 5 => some ([0, 1, 2, 7], [])
  | 6 => some ([0, 1, 2, 7, 8], [])
  | 7 => some ([0, 2], [])
  | 8 => some ([0, 1, 2, 7, 8], [])
  | 9 => some ([0, 1, 2, 7, 8], [])
  | 10 => some ([0, 1, 2, 7, 9], [])
  | 11 => some ([0, 1, 7, 9], [])
  | 12 => some ([9], [])
  | 13 => some ([0, 1, 2, 7, 8], [])
  | 14 => some ([0, 1, 2, 7, 8], [])
  | 15 => some ([0, 1, 2, 7], [])
  | 16 => some ([0, 1, 2], [])
  | 17 => some ([0], [])
  | 18 => some ([0, 1, 2, 7, 8], [])
  | 19 => some ([0, 1, 7], [])
  | 20 => some ([0], [])
  | _ => none
def f27_C : Fns := noC
theorem f27_Cok : CsOk Try.prog (f27_C) := noC_ok
def f27_cx : Cx := mkCx (tabOf rows) (f27_C) md (cmpIn cmps) f27_plan (f27_Cok)
def f27_T {X : Type} (k : Nat) (K : Nat × (List CV) → Option X)  (x0 : Nat) (x1 : Int) (x2 : List CV) (x3 : List CV) : Option X :=
grd (decide (0 ≤ x1)) <|
grd (decide (x1 ≤ (Nat.cast (x0) : Int))) <|
grd (decide ((Nat.cast (x0) : Int) ≤ (Nat.cast (x0) : Int))) <|
(bif ((Nat.cast ((List.length x2)) : Int) == 0) then
K (x0, (List.take (0 + x0) x3))
else
(bif (x1 == (Nat.cast (x0) : Int)) then
grd (decide ((x0 + (List.length x2)) * 32 ≤ 140737488355328)) <|
K ((x0 + (List.length x2)), (List.take (0 + (x0 + (List.length x2))) ((List.take x0 x3) ++ x2)))
else
none))
/-- "slices.Insert[[]outpost/api.Opt,outpost/api.Opt]" -/
def f27_A (k : Nat) : f27_R := fun X K x0 x1 x2 x3 => f27_T k K  x0 x1 x2 x3
set_option maxRecDepth 100000 in
theorem f27_ev' {X : Type} (k : Nat) (K : Out → Option X) (x0 : Nat) (x1 : Int) (x2 : List CV) (x3 : List CV) : evFn (f27_cx) [] k Try.f27.ntmps Try.f27.results.toList (Try.f27.body.getD .skip) [(.osl [1000] (some 2) 0 x0), (.v (CV.int .i64 x1)), (.sl false (some 2) x2)] [([1000], (.row false (some 2) x3))] K = f27_T k (fun u => K (f27_out u)) x0 x1 x2 x3 := by kernel_rfl
theorem f27_ev {X : Type} (k : Nat) (K : Out → Option X) (x0 : Nat) (x1 : Int) (x2 : List CV) (x3 : List CV) : evFn (f27_cx) [] k Try.f27.ntmps Try.f27.results.toList (Try.f27.body.getD .skip) [(.osl [1000] (some 2) 0 x0), (.v (CV.int .i64 x1)), (.sl false (some 2) x2)] [([1000], (.row false (some 2) x3))] K = f27_A k X (fun u => K (f27_out u)) x0 x1 x2 x3 := (f27_ev' k K x0 x1 x2 x3).trans rfl
theorem f27_okA (k : Nat) : AnsOk Try.prog 27 (f27_cOf (f27_A k)) := by
  intro X xs ns K x h
  unfold f27_cOf at h ⊢
  split at h
  · exact ans_main S (f27_Cok) Try.func27 (ent_of Try.func27 (by kernel_rfl) rfl) rfl (fun X K => f27_ev k K _ _ _ _) h
  · cases h
/-- "slices.Insert[[]outpost/api.Opt,outpost/api.Opt]" -/
def f27 {X : Type} (k : Nat) (K : Nat × (List CV) → Option X) (x0 : Nat) (x1 : Int) (x2 : List CV) (x3 : List CV) : Option X := f27_A k X K x0 x1 x2 x3
theorem f27_ok (k : Nat) : AnsOk Try.prog 27 (f27_cOf (fun X => @f27 X k)) := f27_okA k
abbrev f8_R : Type 1 := (X : Type) → (Nat × (List CV) → Option X) → (List CV) → Int → (List CV) → Option X
def f8_out (u : Nat × (List CV)) : Out := ⟨(.osl [2000] (some 2) 0 u.1), [([2000], (.row false (some 2) u.2))]⟩
def f8_cOf (R : f8_R) : FnC := fun X xs ns K => match xs, ns with
  | [(.sl false (some 2) x0), (.v (CV.int .i64 x1)), (.sl false none x2)], [] => R X (fun u => K (f8_out u)) x0 x1 x2
  | _, _ => none
def f8_plan : Nat → Option (List Nat × List Wk)
  | 0 => some ([0, 1, 2], [])
  | 1 => some ([0, 2, 4], [])
  | 2 => some ([0, 2, 4, 7], [])
  | 3 => some ([0, 2, 4], [])
  | 4 => some ([0, 2, 4, 7], [])
  | 5 => some ([0, 2, 4, 7, 8], [])
  | 6 => some ([2, 4, 7, 8, 18, 19, 20], [⟨8, [], some [8]⟩])
  | 7 => some ([2, 4, 7, 8, 18, 19, 20], [])
  | 8 => some ([2, 4, 7, 8, 10, 18, 19, 20], [])
  | 9 => some ([2, 4, 7, 8, 18, 19, 20], [])
  | 10 => some ([2, 4, 7, 8], [])
  | _ => none
def f8_C (R_f24c : f24c_R) (R_f26 : f26_R) (R_f21 : f21_R) (R_f27 : f27_R) : Fns := (orC 21 (f21_cOf R_f21) (orC 24 (f24c_cOf R_f24c) (orC 26 (f26_cOf R_f26) (orC 27 (f27_cOf R_f27) noC))))
theorem f8_Cok (R_f24c : f24c_R) (R_f26 : f26_R) (R_f21 : f21_R) (R_f27 : f27_R) (hR_f24c : AnsOk Try.prog 24 (f24c_cOf R_f24c)) (hR_f26 : AnsOk Try.prog 26 (f26_cOf R_f26)) (hR_f21 : AnsOk Try.prog 21 (f21_cOf R_f21)) (hR_f27 : AnsOk Try.prog 27 (f27_cOf R_f27)) : CsOk Try.prog (f8_C R_f24c R_f26 R_f21 R_f27) := (orC_ok hR_f21 (orC_ok hR_f24c (orC_ok hR_f26 (orC_ok hR_f27 noC_ok))))
def f8_cx (R_f24c : f24c_R) (R_f26 : f26_R) (R_f21 : f21_R) (R_f27 : f27_R) (hR_f24c : AnsOk Try.prog 24 (f24c_cOf R_f24c)) (hR_f26 : AnsOk Try.prog 26 (f26_cOf R_f26)) (hR_f21 : AnsOk Try.prog 21 (f21_cOf R_f21)) (hR_f27 : AnsOk Try.prog 27 (f27_cOf R_f27)) : Cx := mkCx (tabOf rows) (f8_C R_f24c R_f26 R_f21 R_f27) md (cmpIn cmps) f8_plan (f8_Cok R_f24c R_f26 R_f21 R_f27 hR_f24c hR_f26 hR_f21 hR_f27)
def f8_S1 (v : (List CV) × Int × Nat × (List CV) × Int × Int × Int × (List CV)) : St := ⟨[.undef, .undef, (.sl false none v.1), .undef, (.ptr [4] 0 0 0), .undef, .undef, (.v (CV.int .i64 v.2.1)), (.osl [8] (some 2) 0 v.2.2.1), .undef, .undef, .undef, .undef, .undef, .undef, .undef, .undef, .undef, (.sl false (some 2) v.2.2.2.1), (.v (CV.int .i64 v.2.2.2.2.1)), (.v (CV.int .i64 v.2.2.2.2.2.1)), .undef, .undef, .undef, .undef, .undef, .undef, .undef, .undef, .undef, .undef, .undef, .undef, .undef, .undef, .undef, .undef, .undef], [([4], (.obj [(.v (CV.int .i64 v.2.2.2.2.2.2.1))])), ([8], (.row false (some 2) v.2.2.2.2.2.2.2))]⟩
def f8_J1 {X : Type} (R_f24c : f24c_R) (R_f26 : f26_R) (R_f21 : f21_R) (R_f27 : f27_R) (k : Nat) (K : Nat × (List CV) → Option X) (loop1 : (List CV) × Int × Nat × (List CV) × Int × Int × Int × (List CV) → Option X) (x0 : List CV) (x1 : Int) (v2 : (List CV) × Int) : Option X :=
loop1 (v2.1, v2.2, 0, x0, (Nat.cast ((List.length x0)) : Int), 0, x1, [])
def f8_T1 {X : Type} (R_f24c : f24c_R) (R_f26 : f26_R) (R_f21 : f21_R) (R_f27 : f27_R) (k : Nat) (K : Nat × (List CV) → Option X)   (rec1 : (List CV) × Int × Nat × (List CV) × Int × Int × Int × (List CV) → Option X) (v7_2 : (List CV) × Int × Nat × (List CV) × Int × Int × Int × (List CV)) : Option X :=
(bif (decide (v7_2.2.2.2.2.2.1 < v7_2.2.2.2.2.1)) then
grd (decide (0 ≤ v7_2.2.2.2.2.2.1)) <|
Option.bind (v7_2.2.2.2.1)[(Int.toNat v7_2.2.2.2.2.2.1)]? fun e10 =>
grd (CV.isA 2 e10) <|
grd (CV.isI .i64 (CV.cellD 0 e10)) <|
grd (CV.isL none (CV.cellD 1 e10)) <|
R_f26 _ (fun u11 =>
grd (decide ((v7_2.2.2.1 + (List.length (List.take 1 (List.drop 0 [(CV.agg [(CV.int .i64 u11.1), (CV.slc none (List.take u11.2.1 (List.drop 0 u11.2.2)))])])))) * 32 ≤ 140737488355328)) <|
rec1 (v7_2.1, v7_2.2.1, (v7_2.2.2.1 + (List.length (List.take 1 (List.drop 0 [(CV.agg [(CV.int .i64 u11.1), (CV.slc none (List.take u11.2.1 (List.drop 0 u11.2.2)))])])))), v7_2.2.2.2.1, v7_2.2.2.2.2.1, (IntKind.wrap .i64 (v7_2.2.2.2.2.2.1 + 1)), v7_2.2.2.2.2.2.2.1, ((List.take v7_2.2.2.1 v7_2.2.2.2.2.2.2.2) ++ (List.take 1 (List.drop 0 [(CV.agg [(CV.int .i64 u11.1), (CV.slc none (List.take u11.2.1 (List.drop 0 u11.2.2)))])]))))) ((CV.agg [(CV.int .i64 (CV.toI (CV.cellD 0 e10))), (CV.slc none (CV.toL (CV.cellD 1 e10)))]))
else
R_f21 _ (fun u12 =>
R_f27 _ (fun u13 =>
K (u13.1, (List.take (0 + u13.1) u13.2))) (v7_2.2.2.1) (v7_2.2.1) ((List.take 1 (List.drop 0 [(CV.agg [(CV.int .i64 v7_2.2.2.2.2.2.2.1), (CV.slc none (List.take (List.length u12) (List.drop 0 u12)))])]))) (v7_2.2.2.2.2.2.2.2)) (v7_2.1))
def f8_L1 {X : Type} (R_f24c : f24c_R) (R_f26 : f26_R) (R_f21 : f21_R) (R_f27 : f27_R) (k : Nat) (K : Nat × (List CV) → Option X)  (rec1 : (List CV) × Int × Nat × (List CV) × Int × Int × Int × (List CV) → Option X) (v : (List CV) × Int × Nat × (List CV) × Int × Int × Int × (List CV)) : Option X := f8_T1 R_f24c R_f26 R_f21 R_f27 k K   rec1 v
set_option maxRecDepth 100000 in
theorem f8_L1_ev {X : Type} (R_f24c : f24c_R) (R_f26 : f26_R) (R_f21 : f21_R) (R_f27 : f27_R) (hR_f24c : AnsOk Try.prog 24 (f24c_cOf R_f24c)) (hR_f26 : AnsOk Try.prog 26 (f26_cOf R_f26)) (hR_f21 : AnsOk Try.prog 21 (f21_cOf R_f21)) (hR_f27 : AnsOk Try.prog 27 (f27_cOf R_f27)) (k : Nat) (K : Out → Option X)  (r1 : St → Option X) (v : (List CV) × Int × Nat × (List CV) × Int × Int × Int × (List CV)) : loopB (f8_cx R_f24c R_f26 R_f21 R_f27 hR_f24c hR_f26 hR_f21 hR_f27) k [.r, .r, .r, .r, .l, .r, .b] (Try.f8.body.getD .skip) (retK (f8_cx R_f24c R_f26 R_f21 R_f27 hR_f24c hR_f26 hR_f21 hR_f27) [] Try.f8.results.toList K) [] r1 (f8_S1 v) = f8_T1 R_f24c R_f26 R_f21 R_f27 k (fun u => K (f8_out u))   (fun v => r1 (f8_S1 v)) v := by kernel_rfl
theorem f8_L1_it {X : Type} (R_f24c : f24c_R) (R_f26 : f26_R) (R_f21 : f21_R) (R_f27 : f27_R) (hR_f24c : AnsOk Try.prog 24 (f24c_cOf R_f24c)) (hR_f26 : AnsOk Try.prog 26 (f26_cOf R_f26)) (hR_f21 : AnsOk Try.prog 21 (f21_cOf R_f21)) (hR_f27 : AnsOk Try.prog 27 (f27_cOf R_f27)) (k : Nat) (K : Out → Option X)  : (fun v => iter (loopB (f8_cx R_f24c R_f26 R_f21 R_f27 hR_f24c hR_f26 hR_f21 hR_f27) k [.r, .r, .r, .r, .l, .r, .b] (Try.f8.body.getD .skip) (retK (f8_cx R_f24c R_f26 R_f21 R_f27 hR_f24c hR_f26 hR_f21 hR_f27) [] Try.f8.results.toList K) []) k (f8_S1 v)) = iterV (f8_L1 R_f24c R_f26 R_f21 R_f27 k (fun u => K (f8_out u)) ) k :=
  iter_map (fun r1 v => (f8_L1_ev R_f24c R_f26 R_f21 R_f27 hR_f24c hR_f26 hR_f21 hR_f27 k K  r1 v).trans rfl) k
def f8_T {X : Type} (R_f24c : f24c_R) (R_f26 : f26_R) (R_f21 : f21_R) (R_f27 : f27_R) (k : Nat) (K : Nat × (List CV) → Option X) (loop1 : (List CV) × Int × Nat × (List CV) × Int × Int × Int × (List CV) → Option X) (x0 : List CV) (x1 : Int) (x2 : List CV) : Option X :=
R_f24c _ (fun u1 =>
(bif (decide (u1 < 0)) then
f8_J1 R_f24c R_f26 R_f21 R_f27 k K loop1 x0 x1 (x2, (Nat.cast ((List.length x0)) : Int))
else
f8_J1 R_f24c R_f26 R_f21 R_f27 k K loop1 x0 x1 (x2, u1))) (x0) (x1)
/-- "outpost/opt.Add" -/
def f8_A (R_f24c : f24c_R) (R_f26 : f26_R) (R_f21 : f21_R) (R_f27 : f27_R) (k : Nat) : f8_R := fun X K x0 x1 x2 => f8_T R_f24c R_f26 R_f21 R_f27 k K (iterV (f8_L1 R_f24c R_f26 R_f21 R_f27 k K) k) x0 x1 x2
set_option maxRecDepth 100000 in
theorem f8_ev' {X : Type} (R_f24c : f24c_R) (R_f26 : f26_R) (R_f21 : f21_R) (R_f27 : f27_R) (hR_f24c : AnsOk Try.prog 24 (f24c_cOf R_f24c)) (hR_f26 : AnsOk Try.prog 26 (f26_cOf R_f26)) (hR_f21 : AnsOk Try.prog 21 (f21_cOf R_f21)) (hR_f27 : AnsOk Try.prog 27 (f27_cOf R_f27)) (k : Nat) (K : Out → Option X) (x0 : List CV) (x1 : Int) (x2 : List CV) : evFn (f8_cx R_f24c R_f26 R_f21 R_f27 hR_f24c hR_f26 hR_f21 hR_f27) [] k Try.f8.ntmps Try.f8.results.toList (Try.f8.body.getD .skip) [(.sl false (some 2) x0), (.v (CV.int .i64 x1)), (.sl false none x2)] [] K = f8_T R_f24c R_f26 R_f21 R_f27 k (fun u => K (f8_out u)) (fun v => iter (loopB (f8_cx R_f24c R_f26 R_f21 R_f27 hR_f24c hR_f26 hR_f21 hR_f27) k [.r, .r, .r, .r, .l, .r, .b] (Try.f8.body.getD .skip) (retK (f8_cx R_f24c R_f26 R_f21 R_f27 hR_f24c hR_f26 hR_f21 hR_f27) [] Try.f8.results.toList K) []) k (f8_S1 v)) x0 x1 x2 := by kernel_rfl
theorem f8_ev {X : Type} (R_f24c : f24c_R) (R_f26 : f26_R) (R_f21 : f21_R) (R_f27 : f27_R) (hR_f24c : AnsOk Try.prog 24 (f24c_cOf R_f24c)) (hR_f26 : AnsOk Try.prog 26 (f26_cOf R_f26)) (hR_f21 : AnsOk Try.prog 21 (f21_cOf R_f21)) (hR_f27 : AnsOk Try.prog 27 (f27_cOf R_f27)) (k : Nat) (K : Out → Option X) (x0 : List CV) (x1 : Int) (x2 : List CV) : evFn (f8_cx R_f24c R_f26 R_f21 R_f27 hR_f24c hR_f26 hR_f21 hR_f27) [] k Try.f8.ntmps Try.f8.results.toList (Try.f8.body.getD .skip) [(.sl false (some 2) x0), (.v (CV.int .i64 x1)), (.sl false none x2)] [] K = f8_A R_f24c R_f26 R_f21 R_f27 k X (fun u => K (f8_out u)) x0 x1 x2 := (f8_ev' R_f24c R_f26 R_f21 R_f27 hR_f24c hR_f26 hR_f21 hR_f27 k K x0 x1 x2).trans (by rw [f8_L1_it R_f24c R_f26 R_f21 R_f27 hR_f24c hR_f26 hR_f21 hR_f27 k K]; rfl)
theorem f8_okA (R_f24c : f24c_R) (R_f26 : f26_R) (R_f21 : f21_R) (R_f27 : f27_R) (hR_f24c : AnsOk Try.prog 24 (f24c_cOf R_f24c)) (hR_f26 : AnsOk Try.prog 26 (f26_cOf R_f26)) (hR_f21 : AnsOk Try.prog 21 (f21_cOf R_f21)) (hR_f27 : AnsOk Try.prog 27 (f27_cOf R_f27)) (k : Nat) : AnsOk Try.prog 8 (f8_cOf (f8_A R_f24c R_f26 R_f21 R_f27 k)) := by
  intro X xs ns K x h
  unfold f8_cOf at h ⊢
  split at h
  · exact ans_main S (f8_Cok R_f24c R_f26 R_f21 R_f27 hR_f24c hR_f26 hR_f21 hR_f27) Try.func8 (ent_of Try.func8 (by kernel_rfl) rfl) rfl (fun X K => f8_ev R_f24c R_f26 R_f21 R_f27 hR_f24c hR_f26 hR_f21 hR_f27 k K _ _ _) h
  · cases h
/-- "outpost/opt.Add" -/
def f8 {X : Type} (k : Nat) (K : Nat × (List CV) → Option X) (x0 : List CV) (x1 : Int) (x2 : List CV) : Option X := f8_A (fun X => @f24c X k) (fun X => @f26 X k) (fun X => @f21 X k) (fun X => @f27 X k) k X K x0 x1 x2
theorem f8_ok (k : Nat) : AnsOk Try.prog 8 (f8_cOf (fun X => @f8 X k)) := f8_okA (fun X => @f24c X k) (fun X => @f26 X k) (fun X => @f21 X k) (fun X => @f27 X k) (f24c_ok k) (f26_ok k) (f21_ok k) (f27_ok k) k
abbrev f35_R : Type 1 := (X : Type) → (Nat × (List CV) → Option X) → (List CV) → Int → Option X
def f35_out (u : Nat × (List CV)) : Out := ⟨(.osl [2000] none 0 u.1), [([2000], (.row false none u.2))]⟩
def f35_cOf (R : f35_R) : FnC := fun X xs ns K => match xs, ns with
  | [(.sl false (some 2) x0), (.v (CV.int .i64 x1))], [] => R X (fun u => K (f35_out u)) x0 x1
  | _, _ => none
def f35_plan : Nat → Option (List Nat × List Wk)
  | 0 => some ([0, 1], [])
  | 1 => some ([0, 1], [])
  | 2 => some ([0, 1, 5], [])
  | 3 => some ([1, 5, 8, 9, 10], [⟨5, [], some [5]⟩])
  | 4 => some ([1, 5, 8, 9, 10], [])
  | 5 => some ([1, 5, 7, 8, 9, 10], [])
  | 6 => some ([1, 5, 7, 8, 9, 10], [])
  | 7 => some ([1, 5, 8, 9, 10], [⟨5, [], some [5]⟩])
  | 8 => some ([5], [])
  | _ => none
def f35_C (R_f21 : f21_R) : Fns := (orC 21 (f21_cOf R_f21) noC)
theorem f35_Cok (R_f21 : f21_R) (hR_f21 : AnsOk Try.prog 21 (f21_cOf R_f21)) : CsOk Try.prog (f35_C R_f21) := (orC_ok hR_f21 noC_ok)
def f35_cx (R_f21 : f21_R) (hR_f21 : AnsOk Try.prog 21 (f21_cOf R_f21)) : Cx := mkCx (tabOf rows) (f35_C R_f21) md (cmpIn cmps) f35_plan (f35_Cok R_f21 hR_f21)
def f35_S1 (v : Int × Nat × (List CV) × Int × Int × (List CV)) : St := ⟨[.undef, (.v (CV.int .i64 v.1)), .undef, .undef, .undef, (.osl [5] none 0 v.2.1), .undef, .undef, (.sl false (some 2) v.2.2.1), (.v (CV.int .i64 v.2.2.2.1)), (.v (CV.int .i64 v.2.2.2.2.1)), .undef, .undef, .undef, .undef, .undef, .undef, .undef, .undef, .undef, .undef, .undef, .undef, .undef, .undef, .undef], [([5], (.row false none v.2.2.2.2.2))]⟩
def f35_J1 {X : Type} (R_f21 : f21_R) (k : Nat) (K : Nat × (List CV) → Option X) (rec1 : Int × Nat × (List CV) × Int × Int × (List CV) → Option X) (v5_0 : Int × Nat × (List CV) × Int × Int × (List CV)) (v8 : Nat × (List CV)) : Option X :=
rec1 (v5_0.1, v8.1, v5_0.2.2.1, v5_0.2.2.2.1, (IntKind.wrap .i64 (v5_0.2.2.2.2.1 + 1)), v8.2)
def f35_T1 {X : Type} (R_f21 : f21_R) (k : Nat) (K : Nat × (List CV) → Option X)   (rec1 : Int × Nat × (List CV) × Int × Int × (List CV) → Option X) (v5_0 : Int × Nat × (List CV) × Int × Int × (List CV)) : Option X :=
(bif (decide (v5_0.2.2.2.2.1 < v5_0.2.2.2.1)) then
grd (decide (0 ≤ v5_0.2.2.2.2.1)) <|
Option.bind (v5_0.2.2.1)[(Int.toNat v5_0.2.2.2.2.1)]? fun e9 =>
grd (CV.isA 2 e9) <|
grd (CV.isI .i64 (CV.cellD 0 e9)) <|
grd (CV.isL none (CV.cellD 1 e9)) <|
(bif ((CV.toI (CV.cellD 0 e9)) == v5_0.1) then
R_f21 _ (fun u10 =>
grd (decide ((v5_0.2.1 + (List.length (List.take 1 (List.drop 0 [(CV.slc none (List.take (List.length u10) (List.drop 0 u10)))])))) * 24 ≤ 140737488355328)) <|
f35_J1 R_f21 k K rec1 v5_0 ((v5_0.2.1 + (List.length (List.take 1 (List.drop 0 [(CV.slc none (List.take (List.length u10) (List.drop 0 u10)))])))), ((List.take v5_0.2.1 v5_0.2.2.2.2.2) ++ (List.take 1 (List.drop 0 [(CV.slc none (List.take (List.length u10) (List.drop 0 u10)))]))))) ((CV.toL (CV.cellD 1 e9)))
else
f35_J1 R_f21 k K rec1 v5_0 (v5_0.2.1, v5_0.2.2.2.2.2))
else
K (v5_0.2.1, (List.take (0 + v5_0.2.1) v5_0.2.2.2.2.2)))
def f35_L1 {X : Type} (R_f21 : f21_R) (k : Nat) (K : Nat × (List CV) → Option X)  (rec1 : Int × Nat × (List CV) × Int × Int × (List CV) → Option X) (v : Int × Nat × (List CV) × Int × Int × (List CV)) : Option X := f35_T1 R_f21 k K   rec1 v
set_option maxRecDepth 100000 in
theorem f35_L1_ev {X : Type} (R_f21 : f21_R) (hR_f21 : AnsOk Try.prog 21 (f21_cOf R_f21)) (k : Nat) (K : Out → Option X)  (r1 : St → Option X) (v : Int × Nat × (List CV) × Int × Int × (List CV)) : loopB (f35_cx R_f21 hR_f21) k [.r, .r, .l, .r, .b] (Try.f35.body.getD .skip) (retK (f35_cx R_f21 hR_f21) [] Try.f35.results.toList K) [] r1 (f35_S1 v) = f35_T1 R_f21 k (fun u => K (f35_out u))   (fun v => r1 (f35_S1 v)) v := by kernel_rfl
theorem f35_L1_it {X : Type} (R_f21 : f21_R) (hR_f21 : AnsOk Try.prog 21 (f21_cOf R_f21)) (k : Nat) (K : Out → Option X)  : (fun v => iter (loopB (f35_cx R_f21 hR_f21) k [.r, .r, .l, .r, .b] (Try.f35.body.getD .skip) (retK (f35_cx R_f21 hR_f21) [] Try.f35.results.toList K) []) k (f35_S1 v)) = iterV (f35_L1 R_f21 k (fun u => K (f35_out u)) ) k :=
  iter_map (fun r1 v => (f35_L1_ev R_f21 hR_f21 k K  r1 v).trans rfl) k
def f35_T {X : Type} (R_f21 : f21_R) (k : Nat) (K : Nat × (List CV) → Option X) (loop1 : Int × Nat × (List CV) × Int × Int × (List CV) → Option X) (x0 : List CV) (x1 : Int) : Option X :=
loop1 (x1, 0, x0, (Nat.cast ((List.length x0)) : Int), 0, [])
/-- "outpost/opt.All" -/
def f35_A (R_f21 : f21_R) (k : Nat) : f35_R := fun X K x0 x1 => f35_T R_f21 k K (iterV (f35_L1 R_f21 k K) k) x0 x1
set_option maxRecDepth 100000 in
theorem f35_ev' {X : Type} (R_f21 : f21_R) (hR_f21 : AnsOk Try.prog 21 (f21_cOf R_f21)) (k : Nat) (K : Out → Option X) (x0 : List CV) (x1 : Int) : evFn (f35_cx R_f21 hR_f21) [] k Try.f35.ntmps Try.f35.results.toList (Try.f35.body.getD .skip) [(.sl false (some 2) x0), (.v (CV.int .i64 x1))] [] K = f35_T R_f21 k (fun u => K (f35_out u)) (fun v => iter (loopB (f35_cx R_f21 hR_f21) k [.r, .r, .l, .r, .b] (Try.f35.body.getD .skip) (retK (f35_cx R_f21 hR_f21) [] Try.f35.results.toList K) []) k (f35_S1 v)) x0 x1 := by kernel_rfl
theorem f35_ev {X : Type} (R_f21 : f21_R) (hR_f21 : AnsOk Try.prog 21 (f21_cOf R_f21)) (k : Nat) (K : Out → Option X) (x0 : List CV) (x1 : Int) : evFn (f35_cx R_f21 hR_f21) [] k Try.f35.ntmps Try.f35.results.toList (Try.f35.body.getD .skip) [(.sl false (some 2) x0), (.v (CV.int .i64 x1))] [] K = f35_A R_f21 k X (fun u => K (f35_out u)) x0 x1 := (f35_ev' R_f21 hR_f21 k K x0 x1).trans (by rw [f35_L1_it R_f21 hR_f21 k K]; rfl)
theorem f35_okA (R_f21 : f21_R) (hR_f21 : AnsOk Try.prog 21 (f21_cOf R_f21)) (k : Nat) : AnsOk Try.prog 35 (f35_cOf (f35_A R_f21 k)) := by
  intro X xs ns K x h
  unfold f35_cOf at h ⊢
  split at h
  · exact ans_main S (f35_Cok R_f21 hR_f21) Try.func35 (ent_of Try.func35 (by kernel_rfl) rfl) rfl (fun X K => f35_ev R_f21 hR_f21 k K _ _) h
  · cases h
/-- "outpost/opt.All" -/
def f35 {X : Type} (k : Nat) (K : Nat × (List CV) → Option X) (x0 : List CV) (x1 : Int) : Option X := f35_A (fun X => @f21 X k) k X K x0 x1
theorem f35_ok (k : Nat) : AnsOk Try.prog 35 (f35_cOf (fun X => @f35 X k)) := f35_okA (fun X => @f21 X k) (f21_ok k) k
abbrev f11_R : Type 1 := (X : Type) → ((List CV) × Bool → Option X) → (List CV) → Int → Option X
def f11_out (u : (List CV) × Bool) : Out := ⟨(.tup [(.sl true none u.1), (.v (CV.bool u.2))]), []⟩
def f11_cOf (R : f11_R) : FnC := fun X xs ns K => match xs, ns with
  | [(.sl false (some 2) x0), (.v (CV.int .i64 x1))], [] => R X (fun u => K (f11_out u)) x0 x1
  | _, _ => none
def f11_plan : Nat → Option (List Nat × List Wk)
  | 0 => some ([0, 1], [])
  | 1 => some ([0, 1], [])
  | 2 => some ([6], [])
  | 3 => some ([], [])
  | 4 => some ([6], [])
  | _ => none
def f11_C (R_f35 : f35_R) : Fns := (orC 35 (f35_cOf R_f35) noC)
theorem f11_Cok (R_f35 : f35_R) (hR_f35 : AnsOk Try.prog 35 (f35_cOf R_f35)) : CsOk Try.prog (f11_C R_f35) := (orC_ok hR_f35 noC_ok)
def f11_cx (R_f35 : f35_R) (hR_f35 : AnsOk Try.prog 35 (f35_cOf R_f35)) : Cx := mkCx (tabOf rows) (f11_C R_f35) md (cmpIn cmps) f11_plan (f11_Cok R_f35 hR_f35)
def f11_T {X : Type} (R_f35 : f35_R) (k : Nat) (K : (List CV) × Bool → Option X)  (x0 : List CV) (x1 : Int) : Option X :=
R_f35 _ (fun u1 =>
(bif ((Nat.cast (u1.1) : Int) == 0) then
K ([], false)
else
grd (decide (0 < (Nat.cast (u1.1) : Int))) <|
Option.bind (u1.2)[0]? fun e2 =>
grd (CV.isL none e2) <|
K ((CV.toL e2), true))) (x0) (x1)
/-- "outpost/opt.Get" -/
def f11_A (R_f35 : f35_R) (k : Nat) : f11_R := fun X K x0 x1 => f11_T R_f35 k K  x0 x1
set_option maxRecDepth 100000 in
theorem f11_ev' {X : Type} (R_f35 : f35_R) (hR_f35 : AnsOk Try.prog 35 (f35_cOf R_f35)) (k : Nat) (K : Out → Option X) (x0 : List CV) (x1 : Int) : evFn (f11_cx R_f35 hR_f35) [⟨0, [0], none⟩] k Try.f11.ntmps Try.f11.results.toList (Try.f11.body.getD .skip) [(.sl false (some 2) x0), (.v (CV.int .i64 x1))] [] K = f11_T R_f35 k (fun u => K (f11_out u)) x0 x1 := by kernel_rfl
theorem f11_ev {X : Type} (R_f35 : f35_R) (hR_f35 : AnsOk Try.prog 35 (f35_cOf R_f35)) (k : Nat) (K : Out → Option X) (x0 : List CV) (x1 : Int) : evFn (f11_cx R_f35 hR_f35) [⟨0, [0], none⟩] k Try.f11.ntmps Try.f11.results.toList (Try.f11.body.getD .skip) [(.sl false (some 2) x0), (.v (CV.int .i64 x1))] [] K = f11_A R_f35 k X (fun u => K (f11_out u)) x0 x1 := (f11_ev' R_f35 hR_f35 k K x0 x1).trans rfl
theorem f11_okA (R_f35 : f35_R) (hR_f35 : AnsOk Try.prog 35 (f35_cOf R_f35)) (k : Nat) : AnsOk Try.prog 11 (f11_cOf (f11_A R_f35 k)) := by
  intro X xs ns K x h
  unfold f11_cOf at h ⊢
  split at h
  · exact ans_main S (f11_Cok R_f35 hR_f35) Try.func11 (ent_of Try.func11 (by kernel_rfl) rfl) rfl (fun X K => f11_ev R_f35 hR_f35 k K _ _) h
  · cases h
/-- "outpost/opt.Get" -/
def f11 {X : Type} (k : Nat) (K : (List CV) × Bool → Option X) (x0 : List CV) (x1 : Int) : Option X := f11_A (fun X => @f35 X k) k X K x0 x1
theorem f11_ok (k : Nat) : AnsOk Try.prog 11 (f11_cOf (fun X => @f11 X k)) := f11_okA (fun X => @f35 X k) (f35_ok k) k
abbrev f36_R : Type 1 := (X : Type) → (Int × Bool → Option X) → (List CV) → Option X
def f36_out (u : Int × Bool) : Out := ⟨(.tup [(.v (CV.int .i64 u.1)), (.v (CV.bool u.2))]), []⟩
def f36_cOf (R : f36_R) : FnC := fun X xs ns K => match xs, ns with
  | [(.sl false none x0)], [] => R X (fun u => K (f36_out u)) x0
  | _, _ => none
def f36_plan : Nat → Option (List Nat × List Wk)
  | 0 => some ([0], [])
  | 1 => some ([0], [])
  | 2 => some ([], [])
  | 3 => some ([0], [])
  | 4 => some ([0, 4], [])
  | 5 => some ([4, 10, 11, 12], [])
  | 6 => some ([4, 10, 11, 12], [])
  | 7 => some ([4, 6, 10, 11, 12], [])
  | 8 => some ([4, 10, 11, 12], [])
  | 9 => some ([4], [])
  | _ => none
def f36_C : Fns := noC
theorem f36_Cok : CsOk Try.prog (f36_C) := noC_ok
def f36_cx : Cx := mkCx (tabOf rows) (f36_C) md (cmpIn cmps) f36_plan (f36_Cok)
def f36_S1 (v : Int × (List CV) × Int × Int) : St := ⟨[.undef, .undef, .undef, .undef, (.v (CV.int .i64 v.1)), .undef, .undef, .undef, .undef, .undef, (.sl false none v.2.1), (.v (CV.int .i64 v.2.2.1)), (.v (CV.int .i64 v.2.2.2)), .undef, .undef, .undef, .undef, .undef, .undef, .undef, .undef, .undef, .undef], []⟩
def f36_T1 {X : Type} (k : Nat) (K : Int × Bool → Option X)   (rec1 : Int × (List CV) × Int × Int → Option X) (v6_0 : Int × (List CV) × Int × Int) : Option X :=
(bif (decide (v6_0.2.2.2 < v6_0.2.2.1)) then
grd (decide (0 ≤ v6_0.2.2.2)) <|
Option.bind (v6_0.2.1)[(Int.toNat v6_0.2.2.2)]? fun e5 =>
grd (CV.isI .u8 e5) <|
rec1 ((bop .or .i64 (IntKind.wrap .i64 (v6_0.1 * 2 ^ 8)) (IntKind.wrap .i64 (CV.toI e5))), v6_0.2.1, v6_0.2.2.1, (IntKind.wrap .i64 (v6_0.2.2.2 + 1)))
else
K (v6_0.1, true))
def f36_L1 {X : Type} (k : Nat) (K : Int × Bool → Option X)  (rec1 : Int × (List CV) × Int × Int → Option X) (v : Int × (List CV) × Int × Int) : Option X := f36_T1 k K   rec1 v
set_option maxRecDepth 100000 in
theorem f36_L1_ev {X : Type} (k : Nat) (K : Out → Option X)  (r1 : St → Option X) (v : Int × (List CV) × Int × Int) : loopB (f36_cx) k [.r, .r, .r, .l, .r, .b] (Try.f36.body.getD .skip) (retK (f36_cx) [] Try.f36.results.toList K) [] r1 (f36_S1 v) = f36_T1 k (fun u => K (f36_out u))   (fun v => r1 (f36_S1 v)) v := by kernel_rfl
theorem f36_L1_it {X : Type} (k : Nat) (K : Out → Option X)  : (fun v => iter (loopB (f36_cx) k [.r, .r, .r, .l, .r, .b] (Try.f36.body.getD .skip) (retK (f36_cx) [] Try.f36.results.toList K) []) k (f36_S1 v)) = iterV (f36_L1 k (fun u => K (f36_out u)) ) k :=
  iter_map (fun r1 v => (f36_L1_ev k K  r1 v).trans rfl) k
def f36_T {X : Type} (k : Nat) (K : Int × Bool → Option X) (loop1 : Int × (List CV) × Int × Int → Option X) (x0 : List CV) : Option X :=
(bif (decide ((Nat.cast ((List.length x0)) : Int) > 7)) then
K (0, false)
else
loop1 (0, x0, (Nat.cast ((List.length x0)) : Int), 0))
/-- "outpost/opt.Number" -/
def f36_A (k : Nat) : f36_R := fun X K x0 => f36_T k K (iterV (f36_L1 k K) k) x0
set_option maxRecDepth 100000 in
theorem f36_ev' {X : Type} (k : Nat) (K : Out → Option X) (x0 : List CV) : evFn (f36_cx) [] k Try.f36.ntmps Try.f36.results.toList (Try.f36.body.getD .skip) [(.sl false none x0)] [] K = f36_T k (fun u => K (f36_out u)) (fun v => iter (loopB (f36_cx) k [.r, .r, .r, .l, .r, .b] (Try.f36.body.getD .skip) (retK (f36_cx) [] Try.f36.results.toList K) []) k (f36_S1 v)) x0 := by kernel_rfl
theorem f36_ev {X : Type} (k : Nat) (K : Out → Option X) (x0 : List CV) : evFn (f36_cx) [] k Try.f36.ntmps Try.f36.results.toList (Try.f36.body.getD .skip) [(.sl false none x0)] [] K = f36_A k X (fun u => K (f36_out u)) x0 := (f36_ev' k K x0).trans (by rw [f36_L1_it k K]; rfl)
theorem f36_okA (k : Nat) : AnsOk Try.prog 36 (f36_cOf (f36_A k)) := by
  intro X xs ns K x h
  unfold f36_cOf at h ⊢
  split at h
  · exact ans_main S (f36_Cok) Try.func36 (ent_of Try.func36 (by kernel_rfl) rfl) rfl (fun X K => f36_ev k K _) h
  · cases h
/-- "outpost/opt.Number" -/
def f36 {X : Type} (k : Nat) (K : Int × Bool → Option X) (x0 : List CV) : Option X := f36_A k X K x0
theorem f36_ok (k : Nat) : AnsOk Try.prog 36 (f36_cOf (fun X => @f36 X k)) := f36_okA k
abbrev f12_R : Type 1 := (X : Type) → (CV × Int → Option X) → (List CV) → Option X
def f12_out (u : CV × Int) : Out := ⟨(.tup [(.v u.1), (.v (CV.int .i64 u.2))]), []⟩
def f12_cOf (R : f12_R) : FnC := fun X xs ns K => match xs, ns with
  | [(.sl false none x0)], [] => R X (fun u => K (f12_out u)) x0
  | _, _ => none
def f12_plan : Nat → Option (List Nat × List Wk)
  | 0 => some ([0], [])
  | 1 => some ([0, 2], [])
  | 2 => some ([0, 2, 4], [])
  | 3 => some ([2], [])
  | 4 => some ([2, 4], [])
  | _ => none
def f12_C (R_f36 : f36_R) : Fns := (orC 36 (f36_cOf R_f36) noC)
theorem f12_Cok (R_f36 : f36_R) (hR_f36 : AnsOk Try.prog 36 (f36_cOf R_f36)) : CsOk Try.prog (f12_C R_f36) := (orC_ok hR_f36 noC_ok)
def f12_cx (R_f36 : f36_R) (hR_f36 : AnsOk Try.prog 36 (f36_cOf R_f36)) : Cx := mkCx (tabOf rows) (f12_C R_f36) md (cmpIn cmps) f12_plan (f12_Cok R_f36 hR_f36)
def f12_T {X : Type} (R_f36 : f36_R) (k : Nat) (K : CV × Int → Option X)  (x0 : List CV) : Option X :=
R_f36 _ (fun u1 =>
(bif (decide ((Nat.cast ((List.length x0)) : Int) > 3)) then
K ((CV.agg [(CV.int .i64 0), (CV.bool false), (CV.int .i64 0)]), 20)
else
(bif ((bop .and .i64 u1.1 7) == 7) then
K ((CV.agg [(CV.int .i64 0), (CV.bool false), (CV.int .i64 0)]), 20)
else
grd (decide (0 ≤ (bop .and .i64 u1.1 7))) <|
K ((CV.agg [(CV.int .i64 (Int.fdiv u1.1 (2 ^ 4))), (CV.bool ((bop .and .i64 u1.1 8) != 0)), (CV.int .i64 (IntKind.wrap .i64 (16 * 2 ^ (min (Int.toNat (bop .and .i64 u1.1 7)) 64))))]), 0)))) (x0)
/-- "outpost/block.Read" -/
def f12_A (R_f36 : f36_R) (k : Nat) : f12_R := fun X K x0 => f12_T R_f36 k K  x0
set_option maxRecDepth 100000 in
theorem f12_ev' {X : Type} (R_f36 : f36_R) (hR_f36 : AnsOk Try.prog 36 (f36_cOf R_f36)) (k : Nat) (K : Out → Option X) (x0 : List CV) : evFn (f12_cx R_f36 hR_f36) [] k Try.f12.ntmps Try.f12.results.toList (Try.f12.body.getD .skip) [(.sl false none x0)] [] K = f12_T R_f36 k (fun u => K (f12_out u)) x0 := by kernel_rfl
theorem f12_ev {X : Type} (R_f36 : f36_R) (hR_f36 : AnsOk Try.prog 36 (f36_cOf R_f36)) (k : Nat) (K : Out → Option X) (x0 : List CV) : evFn (f12_cx R_f36 hR_f36) [] k Try.f12.ntmps Try.f12.results.toList (Try.f12.body.getD .skip) [(.sl false none x0)] [] K = f12_A R_f36 k X (fun u => K (f12_out u)) x0 := (f12_ev' R_f36 hR_f36 k K x0).trans rfl
theorem f12_okA (R_f36 : f36_R) (hR_f36 : AnsOk Try.prog 36 (f36_cOf R_f36)) (k : Nat) : AnsOk Try.prog 12 (f12_cOf (f12_A R_f36 k)) := by
  intro X xs ns K x h
  unfold f12_cOf at h ⊢
  split at h
  · exact ans_main S (f12_Cok R_f36 hR_f36) Try.func12 (ent_of Try.func12 (by kernel_rfl) rfl) rfl (fun X K => f12_ev R_f36 hR_f36 k K _) h
  · cases h
/-- "outpost/block.Read" -/
def f12 {X : Type} (k : Nat) (K : CV × Int → Option X) (x0 : List CV) : Option X := f12_A (fun X => @f36 X k) k X K x0
theorem f12_ok (k : Nat) : AnsOk Try.prog 12 (f12_cOf (fun X => @f12 X k)) := f12_okA (fun X => @f36 X k) (f36_ok k) k
abbrev f37_R : Type 1 := (X : Type) → (Int × Int × Nat × Bool × (List CV) → Option X) → CV → (List CV) → Int → Nat → Bool → (List CV) → Option X
def f37_out (u : Int × Int × Nat × Bool × (List CV)) : Out := ⟨(.v (CV.int .i64 u.1)), [([1000], (.obj [(.v (CV.int .i64 u.2.1)), (.osl [1, 1000] none 0 u.2.2.1), (.v (CV.bool u.2.2.2.1))])), ([1, 1000], (.row false none u.2.2.2.2))]⟩
def f37_cOf (R : f37_R) : FnC := fun X xs ns K => match xs, ns with
  | [(.ptr [1000] 0 0 0), (.v x0), (.sl false none x1)], [([1000], (.obj [(.v (CV.int .i64 x2)), (.osl [1, 1000] none 0 x3), (.v (CV.bool x4))])), ([1, 1000], (.row false none x5))] => R X (fun u => K (f37_out u)) x0 x1 x2 x3 x4 x5
  | _, _ => none
def f37_plan : Nat → Option (List Nat × List Wk)
  | 0 => some ([0, 1, 2], [])
  | 1 => some ([0, 2, 4], [])
  | 2 => some ([], [])
  | 3 => some ([0, 2, 4], [])
  | 4 => some ([], [])
  | 5 => some ([0, 2, 4], [])
  | 6 => some ([0, 2, 4], [])
  | 7 => some ([], [])
  | 8 => some ([0, 2], [])
  | 9 => some ([], [])
  | 10 => some ([], [])
  | _ => none
def f37_C (R_f20 : f20_R) : Fns := (orC 20 (f20_cOf R_f20) noC)
theorem f37_Cok (R_f20 : f20_R) (hR_f20 : AnsOk Try.prog 20 (f20_cOf R_f20)) : CsOk Try.prog (f37_C R_f20) := (orC_ok hR_f20 noC_ok)
def f37_cx (R_f20 : f20_R) (hR_f20 : AnsOk Try.prog 20 (f20_cOf R_f20)) : Cx := mkCx (tabOf rows) (f37_C R_f20) md (cmpIn cmps) f37_plan (f37_Cok R_f20 hR_f20)
def f37_J1 {X : Type} (R_f20 : f20_R) (k : Nat) (K : Int × Int × Nat × Bool × (List CV) → Option X) (x1 : List CV) (x2 : Int) (v3 : Bool × Nat × Bool × (List CV)) : Option X :=
(bif v3.1 then
K (20, x2, v3.2.1, v3.2.2.1, (List.take (0 + v3.2.1) v3.2.2.2))
else
(bif (decide ((Nat.cast ((List.length x1)) : Int) > (IntKind.wrap .i64 (x2 - (Nat.cast (v3.2.1) : Int))))) then
K (2, x2, v3.2.1, v3.2.2.1, (List.take (0 + v3.2.1) v3.2.2.2))
else
K (0, x2, v3.2.1, v3.2.2.1, (List.take (0 + v3.2.1) v3.2.2.2))))
def f37_T {X : Type} (R_f20 : f20_R) (k : Nat) (K : Int × Int × Nat × Bool × (List CV) → Option X)  (x0 : CV) (x1 : List CV) (x2 : Int) (x3 : Nat) (x4 : Bool) (x5 : List CV) : Option X :=
grd (CV.isA 3 x0) <|
grd (CV.isI .i64 (CV.cellD 0 x0)) <|
grd (CV.isB (CV.cellD 1 x0)) <|
grd (CV.isI .i64 (CV.cellD 2 x0)) <|
R_f20 _ (fun u2 =>
(bif (!u2) then
K (1, x2, x3, x4, (List.take (0 + x3) x5))
else
(bif (!x4) then
K (4, x2, x3, x4, (List.take (0 + x3) x5))
else
(bif ((IntKind.wrap .i64 ((CV.toI (CV.cellD 0 x0)) * (CV.toI (CV.cellD 2 x0)))) != (Nat.cast (x3) : Int)) then
K (4, x2, x3, x4, (List.take (0 + x3) x5))
else
(bif (CV.toB (CV.cellD 1 x0)) then
(bif ((Nat.cast ((List.length x1)) : Int) != (CV.toI (CV.cellD 2 x0))) then
f37_J1 R_f20 k K x1 x2 (((Nat.cast ((List.length x1)) : Int) != (CV.toI (CV.cellD 2 x0))), x3, x4, x5)
else
f37_J1 R_f20 k K x1 x2 ((decide ((Nat.cast ((List.length x1)) : Int) > (CV.toI (CV.cellD 2 x0)))), x3, x4, x5))
else
f37_J1 R_f20 k K x1 x2 ((decide ((Nat.cast ((List.length x1)) : Int) > (CV.toI (CV.cellD 2 x0)))), x3, x4, x5)))))) ((CV.toI (CV.cellD 0 x0))) ((CV.toI (CV.cellD 2 x0)))
/-- "(*outpost/block.Join).fault" -/
def f37_A (R_f20 : f20_R) (k : Nat) : f37_R := fun X K x0 x1 x2 x3 x4 x5 => f37_T R_f20 k K  x0 x1 x2 x3 x4 x5
set_option maxRecDepth 100000 in
theorem f37_ev' {X : Type} (R_f20 : f20_R) (hR_f20 : AnsOk Try.prog 20 (f20_cOf R_f20)) (k : Nat) (K : Out → Option X) (x0 : CV) (x1 : List CV) (x2 : Int) (x3 : Nat) (x4 : Bool) (x5 : List CV) : evFn (f37_cx R_f20 hR_f20) [] k Try.f37.ntmps Try.f37.results.toList (Try.f37.body.getD .skip) [(.ptr [1000] 0 0 0), (.v x0), (.sl false none x1)] [([1000], (.obj [(.v (CV.int .i64 x2)), (.osl [1, 1000] none 0 x3), (.v (CV.bool x4))])), ([1, 1000], (.row false none x5))] K = f37_T R_f20 k (fun u => K (f37_out u)) x0 x1 x2 x3 x4 x5 := by kernel_rfl
theorem f37_ev {X : Type} (R_f20 : f20_R) (hR_f20 : AnsOk Try.prog 20 (f20_cOf R_f20)) (k : Nat) (K : Out → Option X) (x0 : CV) (x1 : List CV) (x2 : Int) (x3 : Nat) (x4 : Bool) (x5 : List CV) : evFn (f37_cx R_f20 hR_f20) [] k Try.f37.ntmps Try.f37.results.toList (Try.f37.body.getD .skip) [(.ptr [1000] 0 0 0), (.v x0), (.sl false none x1)] [([1000], (.obj [(.v (CV.int .i64 x2)), (.osl [1, 1000] none 0 x3), (.v (CV.bool x4))])), ([1, 1000], (.row false none x5))] K = f37_A R_f20 k X (fun u => K (f37_out u)) x0 x1 x2 x3 x4 x5 := (f37_ev' R_f20 hR_f20 k K x0 x1 x2 x3 x4 x5).trans rfl
theorem f37_okA (R_f20 : f20_R) (hR_f20 : AnsOk Try.prog 20 (f20_cOf R_f20)) (k : Nat) : AnsOk Try.prog 37 (f37_cOf (f37_A R_f20 k)) := by
  intro X xs ns K x h
  unfold f37_cOf at h ⊢
  split at h
  · exact ans_main S (f37_Cok R_f20 hR_f20) Try.func37 (ent_of Try.func37 (by kernel_rfl) rfl) rfl (fun X K => f37_ev R_f20 hR_f20 k K _ _ _ _ _ _) h
  · cases h
/-- "(*outpost/block.Join).fault" -/
def f37 {X : Type} (k : Nat) (K : Int × Int × Nat × Bool × (List CV) → Option X) (x0 : CV) (x1 : List CV) (x2 : Int) (x3 : Nat) (x4 : Bool) (x5 : List CV) : Option X := f37_A (fun X => @f20 X k) k X K x0 x1 x2 x3 x4 x5
theorem f37_ok (k : Nat) : AnsOk Try.prog 37 (f37_cOf (fun X => @f37 X k)) := f37_okA (fun X => @f20 X k) (f20_ok k) k
abbrev f13_R : Type 1 := (X : Type) → (Bool × Int × Int × Nat × Bool × (List CV) → Option X) → CV → (List CV) → Int → Nat → Bool → (List CV) → Option X
def f13_out (u : Bool × Int × Int × Nat × Bool × (List CV)) : Out := ⟨(.tup [(.v (CV.bool u.1)), (.v (CV.int .i64 u.2.1))]), [([1000], (.obj [(.v (CV.int .i64 u.2.2.1)), (.osl [1, 1000] none 0 u.2.2.2.1), (.v (CV.bool u.2.2.2.2.1))])), ([1, 1000], (.row false none u.2.2.2.2.2))]⟩
def f13_cOf (R : f13_R) : FnC := fun X xs ns K => match xs, ns with
  | [(.ptr [1000] 0 0 0), (.v x0), (.sl false none x1)], [([1000], (.obj [(.v (CV.int .i64 x2)), (.osl [1, 1000] none 0 x3), (.v (CV.bool x4))])), ([1, 1000], (.row false none x5))] => R X (fun u => K (f13_out u)) x0 x1 x2 x3 x4 x5
  | _, _ => none
def f13_plan : Nat → Option (List Nat × List Wk)
  | 0 => some ([0, 1, 2], [])
  | 1 => some ([0, 2, 4], [])
  | 2 => some ([0, 2, 4], [])
  | 3 => some ([0, 2, 4], [])
  | 4 => some ([0, 2, 4, 8], [])
  | 5 => some ([0, 8], [])
  | 6 => some ([8], [])
  | 7 => some ([0, 2, 4], [])
  | 8 => some ([0, 4], [])
  | 9 => some ([4], [])
  | _ => none
def f13_C (R_f37 : f37_R) : Fns := (orC 37 (f37_cOf R_f37) noC)
theorem f13_Cok (R_f37 : f37_R) (hR_f37 : AnsOk Try.prog 37 (f37_cOf R_f37)) : CsOk Try.prog (f13_C R_f37) := (orC_ok hR_f37 noC_ok)
def f13_cx (R_f37 : f37_R) (hR_f37 : AnsOk Try.prog 37 (f37_cOf R_f37)) : Cx := mkCx (tabOf rows) (f13_C R_f37) md (cmpIn cmps) f13_plan (f13_Cok R_f37 hR_f37)
def f13_J1 {X : Type} (R_f37 : f37_R) (k : Nat) (K : Bool × Int × Int × Nat × Bool × (List CV) → Option X) (x0 : CV) (v1 : (List CV) × Int × Nat × Bool × (List CV)) : Option X :=
R_f37 _ (fun u3 =>
(bif (u3.1 != 0) then
K (false, u3.1, u3.2.1, 0, false, (List.take 0 []))
else
grd (decide ((u3.2.2.1 + (List.length v1.1)) * 1 ≤ 140737488355328)) <|
K ((!(CV.toB (CV.cellD 1 x0))), 0, u3.2.1, (u3.2.2.1 + (List.length v1.1)), (CV.toB (CV.cellD 1 x0)), (List.take (0 + (u3.2.2.1 + (List.length v1.1))) ((List.take u3.2.2.1 u3.2.2.2.2) ++ v1.1))))) ((CV.agg [(CV.int .i64 (CV.toI (CV.cellD 0 x0))), (CV.bool (CV.toB (CV.cellD 1 x0))), (CV.int .i64 (CV.toI (CV.cellD 2 x0)))])) (v1.1) (v1.2.1) (v1.2.2.1) (v1.2.2.2.1) (v1.2.2.2.2)
def f13_T {X : Type} (R_f37 : f37_R) (k : Nat) (K : Bool × Int × Int × Nat × Bool × (List CV) → Option X)  (x0 : CV) (x1 : List CV) (x2 : Int) (x3 : Nat) (x4 : Bool) (x5 : List CV) : Option X :=
grd (CV.isA 3 x0) <|
grd (CV.isI .i64 (CV.cellD 0 x0)) <|
grd (CV.isB (CV.cellD 1 x0)) <|
grd (CV.isI .i64 (CV.cellD 2 x0)) <|
(bif ((CV.toI (CV.cellD 0 x0)) == 0) then
f13_J1 R_f37 k K x0 (x1, x2, 0, true, [])
else
f13_J1 R_f37 k K x0 (x1, x2, x3, x4, x5))
/-- "(*outpost/block.Join).Put" -/
def f13_A (R_f37 : f37_R) (k : Nat) : f13_R := fun X K x0 x1 x2 x3 x4 x5 => f13_T R_f37 k K  x0 x1 x2 x3 x4 x5
set_option maxRecDepth 100000 in
theorem f13_ev' {X : Type} (R_f37 : f37_R) (hR_f37 : AnsOk Try.prog 37 (f37_cOf R_f37)) (k : Nat) (K : Out → Option X) (x0 : CV) (x1 : List CV) (x2 : Int) (x3 : Nat) (x4 : Bool) (x5 : List CV) : evFn (f13_cx R_f37 hR_f37) [] k Try.f13.ntmps Try.f13.results.toList (Try.f13.body.getD .skip) [(.ptr [1000] 0 0 0), (.v x0), (.sl false none x1)] [([1000], (.obj [(.v (CV.int .i64 x2)), (.osl [1, 1000] none 0 x3), (.v (CV.bool x4))])), ([1, 1000], (.row false none x5))] K = f13_T R_f37 k (fun u => K (f13_out u)) x0 x1 x2 x3 x4 x5 := by kernel_rfl
theorem f13_ev {X : Type} (R_f37 : f37_R) (hR_f37 : AnsOk Try.prog 37 (f37_cOf R_f37)) (k : Nat) (K : Out → Option X) (x0 : CV) (x1 : List CV) (x2 : Int) (x3 : Nat) (x4 : Bool) (x5 : List CV) : evFn (f13_cx R_f37 hR_f37) [] k Try.f13.ntmps Try.f13.results.toList (Try.f13.body.getD .skip) [(.ptr [1000] 0 0 0), (.v x0), (.sl false none x1)] [([1000], (.obj [(.v (CV.int .i64 x2)), (.osl [1, 1000] none 0 x3), (.v (CV.bool x4))])), ([1, 1000], (.row false none x5))] K = f13_A R_f37 k X (fun u => K (f13_out u)) x0 x1 x2 x3 x4 x5 := (f13_ev' R_f37 hR_f37 k K x0 x1 x2 x3 x4 x5).trans rfl
theorem f13_okA (R_f37 : f37_R) (hR_f37 : AnsOk Try.prog 37 (f37_cOf R_f37)) (k : Nat) : AnsOk Try.prog 13 (f13_cOf (f13_A R_f37 k)) := by
  intro X xs ns K x h
  unfold f13_cOf at h ⊢
  split at h
  · exact ans_main S (f13_Cok R_f37 hR_f37) Try.func13 (ent_of Try.func13 (by kernel_rfl) rfl) rfl (fun X K => f13_ev R_f37 hR_f37 k K _ _ _ _ _ _) h
  · cases h
/-- "(*outpost/block.Join).Put" -/
def f13 {X : Type} (k : Nat) (K : Bool × Int × Int × Nat × Bool × (List CV) → Option X) (x0 : CV) (x1 : List CV) (x2 : Int) (x3 : Nat) (x4 : Bool) (x5 : List CV) : Option X := f13_A (fun X => @f37 X k) k X K x0 x1 x2 x3 x4 x5
theorem f13_ok (k : Nat) : AnsOk Try.prog 13 (f13_cOf (fun X => @f13 X k)) := f13_okA (fun X => @f37 X k) (f37_ok k) k
abbrev f15_R : Type 1 := (X : Type) → (Nat × Int × Nat × Bool × (List CV) × (List CV) → Option X) → Int → Nat → Bool → (List CV) → Option X
def f15_out (u : Nat × Int × Nat × Bool × (List CV) × (List CV)) : Out := ⟨(.osl [2000] none 0 u.1), [([1000], (.obj [(.v (CV.int .i64 u.2.1)), (.osl [1, 1000] none 0 u.2.2.1), (.v (CV.bool u.2.2.2.1))])), ([1, 1000], (.row false none u.2.2.2.2.1)), ([2000], (.row false none u.2.2.2.2.2))]⟩
def f15_cOf (R : f15_R) : FnC := fun X xs ns K => match xs, ns with
  | [(.ptr [1000] 0 0 0)], [([1000], (.obj [(.v (CV.int .i64 x0)), (.osl [1, 1000] none 0 x1), (.v (CV.bool x2))])), ([1, 1000], (.row false none x3))] => R X (fun u => K (f15_out u)) x0 x1 x2 x3
  | _, _ => none
def f15_plan : Nat → Option (List Nat × List Wk)
  | 0 => some ([0], [])
  | 1 => some ([0], [])
  | _ => none
def f15_C (R_f21 : f21_R) : Fns := (orC 21 (f21_cOf R_f21) noC)
theorem f15_Cok (R_f21 : f21_R) (hR_f21 : AnsOk Try.prog 21 (f21_cOf R_f21)) : CsOk Try.prog (f15_C R_f21) := (orC_ok hR_f21 noC_ok)
def f15_cx (R_f21 : f21_R) (hR_f21 : AnsOk Try.prog 21 (f21_cOf R_f21)) : Cx := mkCx (tabOf rows) (f15_C R_f21) md (cmpIn cmps) f15_plan (f15_Cok R_f21 hR_f21)
def f15_T {X : Type} (R_f21 : f21_R) (k : Nat) (K : Nat × Int × Nat × Bool × (List CV) × (List CV) → Option X)  (x0 : Int) (x1 : Nat) (x2 : Bool) (x3 : List CV) : Option X :=
R_f21 _ (fun u1 =>
K ((List.length u1), x0, x1, x2, (List.take (0 + x1) x3), (List.take (0 + (List.length u1)) u1))) ((List.take x1 (List.drop 0 x3)))
/-- "(*outpost/block.Join).Bytes" -/
def f15_A (R_f21 : f21_R) (k : Nat) : f15_R := fun X K x0 x1 x2 x3 => f15_T R_f21 k K  x0 x1 x2 x3
set_option maxRecDepth 100000 in
theorem f15_ev' {X : Type} (R_f21 : f21_R) (hR_f21 : AnsOk Try.prog 21 (f21_cOf R_f21)) (k : Nat) (K : Out → Option X) (x0 : Int) (x1 : Nat) (x2 : Bool) (x3 : List CV) : evFn (f15_cx R_f21 hR_f21) [] k Try.f15.ntmps Try.f15.results.toList (Try.f15.body.getD .skip) [(.ptr [1000] 0 0 0)] [([1000], (.obj [(.v (CV.int .i64 x0)), (.osl [1, 1000] none 0 x1), (.v (CV.bool x2))])), ([1, 1000], (.row false none x3))] K = f15_T R_f21 k (fun u => K (f15_out u)) x0 x1 x2 x3 := by kernel_rfl
theorem f15_ev {X : Type} (R_f21 : f21_R) (hR_f21 : AnsOk Try.prog 21 (f21_cOf R_f21)) (k : Nat) (K : Out → Option X) (x0 : Int) (x1 : Nat) (x2 : Bool) (x3 : List CV) : evFn (f15_cx R_f21 hR_f21) [] k Try.f15.ntmps Try.f15.results.toList (Try.f15.body.getD .skip) [(.ptr [1000] 0 0 0)] [([1000], (.obj [(.v (CV.int .i64 x0)), (.osl [1, 1000] none 0 x1), (.v (CV.bool x2))])), ([1, 1000], (.row false none x3))] K = f15_A R_f21 k X (fun u => K (f15_out u)) x0 x1 x2 x3 := (f15_ev' R_f21 hR_f21 k K x0 x1 x2 x3).trans rfl
theorem f15_okA (R_f21 : f21_R) (hR_f21 : AnsOk Try.prog 21 (f21_cOf R_f21)) (k : Nat) : AnsOk Try.prog 15 (f15_cOf (f15_A R_f21 k)) := by
  intro X xs ns K x h
  unfold f15_cOf at h ⊢
  split at h
  · exact ans_main S (f15_Cok R_f21 hR_f21) Try.func15 (ent_of Try.func15 (by kernel_rfl) rfl) rfl (fun X K => f15_ev R_f21 hR_f21 k K _ _ _ _) h
  · cases h
/-- "(*outpost/block.Join).Bytes" -/
def f15 {X : Type} (k : Nat) (K : Nat × Int × Nat × Bool × (List CV) × (List CV) → Option X) (x0 : Int) (x1 : Nat) (x2 : Bool) (x3 : List CV) : Option X := f15_A (fun X => @f21 X k) k X K x0 x1 x2 x3
theorem f15_ok (k : Nat) : AnsOk Try.prog 15 (f15_cOf (fun X => @f15 X k)) := f15_okA (fun X => @f21 X k) (f21_ok k) k
abbrev f14_R : Type 1 := (X : Type) → (Bool → Option X) → (List CV) → (List CV) → Option X
def f14_out (u : Bool) : Out := ⟨(.v (CV.bool u)), []⟩
def f14_cOf (R : f14_R) : FnC := fun X xs ns K => match xs, ns with
  | [(.sl false none x0), (.sl false none x1)], [] => R X (fun u => K (f14_out u)) x0 x1
  | _, _ => none
def f14_plan : Nat → Option (List Nat × List Wk)
  | 0 => some ([0, 1], [])
  | 1 => some ([0, 1], [])
  | 2 => some ([], [])
  | 3 => some ([0, 1], [])
  | 4 => some ([0, 1, 5], [])
  | 5 => some ([0, 1, 5], [])
  | 6 => some ([0, 1, 5], [])
  | 7 => some ([], [])
  | 8 => some ([], [])
  | _ => none
def f14_C : Fns := noC
theorem f14_Cok : CsOk Try.prog (f14_C) := noC_ok
def f14_cx : Cx := mkCx (tabOf rows) (f14_C) md (cmpIn cmps) f14_plan (f14_Cok)
def f14_S1 (v : (List CV) × (List CV) × Int) : St := ⟨[(.sl false none v.1), (.sl false none v.2.1), .undef, .undef, .undef, (.v (CV.int .i64 v.2.2)), .undef, .undef, .undef, .undef, .undef, .undef, .undef, .undef, .undef, .undef, .undef, .undef, .undef, .undef, .undef, .undef, .undef, .undef, .undef, .undef], []⟩
def f14_T1 {X : Type} (k : Nat) (K : Bool → Option X)   (rec1 : (List CV) × (List CV) × Int → Option X) (v5_0 : (List CV) × (List CV) × Int) : Option X :=
(bif (decide (v5_0.2.2 < (Nat.cast ((List.length v5_0.1)) : Int))) then
grd (decide (0 ≤ v5_0.2.2)) <|
Option.bind (v5_0.1)[(Int.toNat v5_0.2.2)]? fun e8 =>
grd (CV.isI .u8 e8) <|
grd (decide (0 ≤ v5_0.2.2)) <|
Option.bind (v5_0.2.1)[(Int.toNat v5_0.2.2)]? fun e9 =>
grd (CV.isI .u8 e9) <|
(bif ((CV.toI e8) != (CV.toI e9)) then
K (false)
else
rec1 (v5_0.1, v5_0.2.1, (IntKind.wrap .i64 (v5_0.2.2 + 1))))
else
K (true))
def f14_L1 {X : Type} (k : Nat) (K : Bool → Option X)  (rec1 : (List CV) × (List CV) × Int → Option X) (v : (List CV) × (List CV) × Int) : Option X := f14_T1 k K   rec1 v
set_option maxRecDepth 100000 in
theorem f14_L1_ev {X : Type} (k : Nat) (K : Out → Option X)  (r1 : St → Option X) (v : (List CV) × (List CV) × Int) : loopB (f14_cx) k [.r, .r, .l, .r, .b] (Try.f14.body.getD .skip) (retK (f14_cx) [] Try.f14.results.toList K) [] r1 (f14_S1 v) = f14_T1 k (fun u => K (f14_out u))   (fun v => r1 (f14_S1 v)) v := by kernel_rfl
theorem f14_L1_it {X : Type} (k : Nat) (K : Out → Option X)  : (fun v => iter (loopB (f14_cx) k [.r, .r, .l, .r, .b] (Try.f14.body.getD .skip) (retK (f14_cx) [] Try.f14.results.toList K) []) k (f14_S1 v)) = iterV (f14_L1 k (fun u => K (f14_out u)) ) k :=
  iter_map (fun r1 v => (f14_L1_ev k K  r1 v).trans rfl) k
def f14_T {X : Type} (k : Nat) (K : Bool → Option X) (loop1 : (List CV) × (List CV) × Int → Option X) (x0 : List CV) (x1 : List CV) : Option X :=
(bif ((Nat.cast ((List.length x0)) : Int) != (Nat.cast ((List.length x1)) : Int)) then
K (false)
else
loop1 (x0, x1, 0))
/-- "outpost/outpostref01.Same" -/
def f14_A (k : Nat) : f14_R := fun X K x0 x1 => f14_T k K (iterV (f14_L1 k K) k) x0 x1
set_option maxRecDepth 100000 in
theorem f14_ev' {X : Type} (k : Nat) (K : Out → Option X) (x0 : List CV) (x1 : List CV) : evFn (f14_cx) [] k Try.f14.ntmps Try.f14.results.toList (Try.f14.body.getD .skip) [(.sl false none x0), (.sl false none x1)] [] K = f14_T k (fun u => K (f14_out u)) (fun v => iter (loopB (f14_cx) k [.r, .r, .l, .r, .b] (Try.f14.body.getD .skip) (retK (f14_cx) [] Try.f14.results.toList K) []) k (f14_S1 v)) x0 x1 := by kernel_rfl
theorem f14_ev {X : Type} (k : Nat) (K : Out → Option X) (x0 : List CV) (x1 : List CV) : evFn (f14_cx) [] k Try.f14.ntmps Try.f14.results.toList (Try.f14.body.getD .skip) [(.sl false none x0), (.sl false none x1)] [] K = f14_A k X (fun u => K (f14_out u)) x0 x1 := (f14_ev' k K x0 x1).trans (by rw [f14_L1_it k K]; rfl)
theorem f14_okA (k : Nat) : AnsOk Try.prog 14 (f14_cOf (f14_A k)) := by
  intro X xs ns K x h
  unfold f14_cOf at h ⊢
  split at h
  · exact ans_main S (f14_Cok) Try.func14 (ent_of Try.func14 (by kernel_rfl) rfl) rfl (fun X K => f14_ev k K _ _) h
  · cases h
/-- "outpost/outpostref01.Same" -/
def f14 {X : Type} (k : Nat) (K : Bool → Option X) (x0 : List CV) (x1 : List CV) : Option X := f14_A k X K x0 x1
theorem f14_ok (k : Nat) : AnsOk Try.prog 14 (f14_cOf (fun X => @f14 X k)) := f14_okA k
abbrev f3_R : Type 1 := (X : Type) → (Bool → Option X) → (List CV) → Int → (List CV) → Option X
def f3_out (u : Bool) : Out := ⟨(.v (CV.bool u)), []⟩
def f3_cOf (R : f3_R) : FnC := fun X xs ns K => match xs, ns with
  | [(.sl true none x0), (.v (CV.int .i64 x1)), (.sl true none x2)], [] => R X (fun u => K (f3_out u)) x0 x1 x2
  | _, _ => none
def f3_plan : Nat → Option (List Nat × List Wk)
  | 0 => some ([0, 1, 2], [])
  | 1 => some ([0, 1, 2], [])
  | 2 => some ([], [])
  | 3 => some ([0, 1, 2], [])
  | 4 => some ([], [])
  | 5 => some ([0, 1, 2], [])
  | 6 => some ([0, 2, 7], [])
  | 7 => some ([0, 2, 7, 8], [])
  | 8 => some ([0, 2, 7, 8, 9], [])
  | 9 => some ([0, 2, 7, 8, 9], [])
  | 10 => some ([0, 2, 7, 8, 9, 10, 11, 12], [])
  | 11 => some ([], [])
  | 12 => some ([0, 2, 7, 8, 9, 10, 11], [])
  | 13 => some ([0, 2, 7, 8, 9, 10, 11, 13, 14], [])
  | 14 => some ([0, 2, 7, 8, 9, 11, 14, 15], [])
  | 15 => some ([0, 2, 7, 8, 9, 11, 14, 16, 17], [])
  | 16 => some ([0, 2, 7, 8, 9, 11, 14, 17, 18, 19], [])
  | 17 => some ([0, 2, 7, 8, 9, 11, 14, 17, 18, 19, 20, 21], [])
  | 18 => some ([0, 2, 7, 8, 9, 11, 14, 17, 18, 19, 21, 22, 23], [])
  | 19 => some ([], [])
  | 20 => some ([0, 2, 7, 8, 9, 11, 18, 22], [])
  | 21 => some ([0, 2, 7, 8, 9, 11, 24, 25], [])
  | 22 => some ([], [])
  | 23 => some ([0, 2, 7, 8, 9, 24], [])
  | 24 => some ([0, 8], [])
  | _ => none
def f3_C (R_f4 : f4_R) (R_f5 : f5_R) (R_f6 : f6_R) (R_f7 : f7_R) (R_f8 : f8_R) (R_f9 : f9_R) (R_f10 : f10_R) (R_f11 : f11_R) (R_f12 : f12_R) (R_f13 : f13_R) (R_f15 : f15_R) (R_f14 : f14_R) : Fns := (orC 4 (f4_cOf R_f4) (orC 5 (f5_cOf R_f5) (orC 6 (f6_cOf R_f6) (orC 7 (f7_cOf R_f7) (orC 8 (f8_cOf R_f8) (orC 9 (f9_cOf R_f9) (orC 10 (f10_cOf R_f10) (orC 11 (f11_cOf R_f11) (orC 12 (f12_cOf R_f12) (orC 13 (f13_cOf R_f13) (orC 14 (f14_cOf R_f14) (orC 15 (f15_cOf R_f15) noC))))))))))))
theorem f3_Cok (R_f4 : f4_R) (R_f5 : f5_R) (R_f6 : f6_R) (R_f7 : f7_R) (R_f8 : f8_R) (R_f9 : f9_R) (R_f10 : f10_R) (R_f11 : f11_R) (R_f12 : f12_R) (R_f13 : f13_R) (R_f15 : f15_R) (R_f14 : f14_R) (hR_f4 : AnsOk Try.prog 4 (f4_cOf R_f4)) (hR_f5 : AnsOk Try.prog 5 (f5_cOf R_f5)) (hR_f6 : AnsOk Try.prog 6 (f6_cOf R_f6)) (hR_f7 : AnsOk Try.prog 7 (f7_cOf R_f7)) (hR_f8 : AnsOk Try.prog 8 (f8_cOf R_f8)) (hR_f9 : AnsOk Try.prog 9 (f9_cOf R_f9)) (hR_f10 : AnsOk Try.prog 10 (f10_cOf R_f10)) (hR_f11 : AnsOk Try.prog 11 (f11_cOf R_f11)) (hR_f12 : AnsOk Try.prog 12 (f12_cOf R_f12)) (hR_f13 : AnsOk Try.prog 13 (f13_cOf R_f13)) (hR_f15 : AnsOk Try.prog 15 (f15_cOf R_f15)) (hR_f14 : AnsOk Try.prog 14 (f14_cOf R_f14)) : CsOk Try.prog (f3_C R_f4 R_f5 R_f6 R_f7 R_f8 R_f9 R_f10 R_f11 R_f12 R_f13 R_f15 R_f14) := (orC_ok hR_f4 (orC_ok hR_f5 (orC_ok hR_f6 (orC_ok hR_f7 (orC_ok hR_f8 (orC_ok hR_f9 (orC_ok hR_f10 (orC_ok hR_f11 (orC_ok hR_f12 (orC_ok hR_f13 (orC_ok hR_f14 (orC_ok hR_f15 noC_ok))))))))))))
def f3_cx (R_f4 : f4_R) (R_f5 : f5_R) (R_f6 : f6_R) (R_f7 : f7_R) (R_f8 : f8_R) (R_f9 : f9_R) (R_f10 : f10_R) (R_f11 : f11_R) (R_f12 : f12_R) (R_f13 : f13_R) (R_f15 : f15_R) (R_f14 : f14_R) (hR_f4 : AnsOk Try.prog 4 (f4_cOf R_f4)) (hR_f5 : AnsOk Try.prog 5 (f5_cOf R_f5)) (hR_f6 : AnsOk Try.prog 6 (f6_cOf R_f6)) (hR_f7 : AnsOk Try.prog 7 (f7_cOf R_f7)) (hR_f8 : AnsOk Try.prog 8 (f8_cOf R_f8)) (hR_f9 : AnsOk Try.prog 9 (f9_cOf R_f9)) (hR_f10 : AnsOk Try.prog 10 (f10_cOf R_f10)) (hR_f11 : AnsOk Try.prog 11 (f11_cOf R_f11)) (hR_f12 : AnsOk Try.prog 12 (f12_cOf R_f12)) (hR_f13 : AnsOk Try.prog 13 (f13_cOf R_f13)) (hR_f15 : AnsOk Try.prog 15 (f15_cOf R_f15)) (hR_f14 : AnsOk Try.prog 14 (f14_cOf R_f14)) : Cx := mkCx (tabOf rows) (f3_C R_f4 R_f5 R_f6 R_f7 R_f8 R_f9 R_f10 R_f11 R_f12 R_f13 R_f15 R_f14) md (cmpIn cmps) f3_plan (f3_Cok R_f4 R_f5 R_f6 R_f7 R_f8 R_f9 R_f10 R_f11 R_f12 R_f13 R_f15 R_f14 hR_f4 hR_f5 hR_f6 hR_f7 hR_f8 hR_f9 hR_f10 hR_f11 hR_f12 hR_f13 hR_f15 hR_f14)
def f3_S1 (v : (List CV) × (List CV) × Int × Int × Int × Nat × Bool × (List CV)) : St := ⟨[(.sl true none v.1), .undef, (.sl true none v.2.1), .undef, .undef, .undef, .undef, (.v (CV.int .i64 v.2.2.1)), (.ptr [42] 0 0 0), (.v (CV.int .i64 v.2.2.2.1)), .undef, .undef, .undef, .undef, .undef, .undef, .undef, .undef, .undef, .undef, .undef, .undef, .undef, .undef, .undef, .undef, .undef, .undef, .undef, .undef, .undef, .undef, .undef, .undef, .undef, .undef, .undef, .undef, .undef, .undef, .undef, .undef, .undef, .undef, .undef, .undef, .undef, .undef, .undef, .undef, .undef, .undef, .undef, .undef, .undef, .undef, .undef, .undef, .undef, .undef, .undef, .undef, .undef, .undef, .undef, .undef, .undef, .undef, .undef, .undef, .undef, .undef, .undef, .undef, .undef, .undef, .undef, .undef, .undef, .undef, .undef, .undef, .undef, .undef, .undef, .undef, .undef, .undef, .undef, .undef, .undef, .undef, .undef, .undef, .undef, .undef, .undef, .undef, .undef, .undef, .undef, .undef, .undef, .undef, .undef, .undef, .undef, .undef, .undef, .undef, .undef, .undef, .undef, .undef, .undef, .undef, .undef, .undef, .undef, .undef, .undef, .undef, .undef, .undef, .undef, .undef, .undef, .undef, .undef, .undef, .undef, .undef], [([42], (.obj [(.v (CV.int .i64 v.2.2.2.2.1)), (.osl [1, 42] none 0 v.2.2.2.2.2.1), (.v (CV.bool v.2.2.2.2.2.2.1))])), ([1, 42], (.row false none v.2.2.2.2.2.2.2))]⟩
def f3_T1 {X : Type} (R_f4 : f4_R) (R_f5 : f5_R) (R_f6 : f6_R) (R_f7 : f7_R) (R_f8 : f8_R) (R_f9 : f9_R) (R_f10 : f10_R) (R_f11 : f11_R) (R_f12 : f12_R) (R_f13 : f13_R) (R_f15 : f15_R) (R_f14 : f14_R) (k : Nat) (K : Bool → Option X)   (rec1 : (List CV) × (List CV) × Int × Int × Int × Nat × Bool × (List CV) → Option X) (v7_3 : (List CV) × (List CV) × Int × Int × Int × Nat × Bool × (List CV)) : Option X :=
R_f6 _ (fun u35 =>
(bif (!u35.2.2.1) then
K (false)
else
R_f7 _ (fun u36 =>
R_f8 _ (fun u37 =>
R_f9 _ (fun u38 =>
R_f10 _ (fun u39 =>
R_f11 _ (fun u40 =>
R_f12 _ (fun u41 =>
grd (CV.isA 3 u41.1) <|
grd (CV.isI .i64 (CV.cellD 0 u41.1)) <|
grd (CV.isB (CV.cellD 1 u41.1)) <|
grd (CV.isI .i64 (CV.cellD 2 u41.1)) <|
(bif (u36.2.1 != 0) then
K (false)
else
(bif (u38.2.1 != 0) then
K (false)
else
(bif (u39.2.2.2.2.2.2.1 != 0) then
K (false)
else
(bif (!u40.2) then
K (false)
else
(bif (u41.2 != 0) then
K (false)
else
R_f13 _ (fun u42 =>
(bif (u42.2.1 != 0) then
K (false)
else
(bif (u42.1 == u35.2.1) then
K (false)
else
(bif u42.1 then
R_f15 _ (fun u43 =>
R_f14 _ (fun u44 =>
K (u44)) ((List.take u43.1 (List.drop 0 u43.2.2.2.2.2))) (v7_3.1)) (u42.2.2.1) (u42.2.2.2.1) (u42.2.2.2.2.1) (u42.2.2.2.2.2)
else
rec1 (v7_3.1, v7_3.2.1, v7_3.2.2.1, (IntKind.wrap .i64 (v7_3.2.2.2.1 + 1)), u42.2.2.1, u42.2.2.2.1, u42.2.2.2.2.1, u42.2.2.2.2.2))))) ((CV.agg [(CV.int .i64 (CV.toI (CV.cellD 0 u41.1))), (CV.bool (CV.toB (CV.cellD 1 u41.1))), (CV.int .i64 (CV.toI (CV.cellD 2 u41.1)))])) ((List.take u39.2.2.2.2.2.1 (List.drop 0 u39.2.2.2.2.2.2.2.2.2))) (v7_3.2.2.2.2.1) (v7_3.2.2.2.2.2.1) (v7_3.2.2.2.2.2.2.1) (v7_3.2.2.2.2.2.2.2))))))) (u40.1)) ((List.take u39.2.2.2.2.1 (List.drop 0 u39.2.2.2.2.2.2.2.2.1))) (27)) ((List.take u38.1 (List.drop 0 u38.2.2)))) ((CV.agg [(CV.int .i64 0), (CV.int .i64 3), (CV.int .i64 v7_3.2.2.2.1), (CV.slc none v7_3.2.1), (CV.slc (some 2) (List.take u37.1 (List.drop 0 u37.2))), (CV.slc none (List.take u35.1 (List.drop 0 u35.2.2.2)))]))) ((List.take 1 (List.drop 0 [(CV.agg [(CV.int .i64 11), (CV.slc none (List.take 1 (List.drop 0 [(CV.int .u8 53)])))])]))) (27) ((List.take u36.1 (List.drop 0 u36.2.2)))) ((CV.agg [(CV.int .i64 v7_3.2.2.2.1), (CV.bool u35.2.1), (CV.int .i64 v7_3.2.2.1)])))) (v7_3.1) (v7_3.2.2.2.1) (v7_3.2.2.1)
def f3_L1 {X : Type} (R_f4 : f4_R) (R_f5 : f5_R) (R_f6 : f6_R) (R_f7 : f7_R) (R_f8 : f8_R) (R_f9 : f9_R) (R_f10 : f10_R) (R_f11 : f11_R) (R_f12 : f12_R) (R_f13 : f13_R) (R_f15 : f15_R) (R_f14 : f14_R) (k : Nat) (K : Bool → Option X)  (rec1 : (List CV) × (List CV) × Int × Int × Int × Nat × Bool × (List CV) → Option X) (v : (List CV) × (List CV) × Int × Int × Int × Nat × Bool × (List CV)) : Option X := f3_T1 R_f4 R_f5 R_f6 R_f7 R_f8 R_f9 R_f10 R_f11 R_f12 R_f13 R_f15 R_f14 k K   rec1 v
set_option maxRecDepth 100000 in
theorem f3_L1_ev {X : Type} (R_f4 : f4_R) (R_f5 : f5_R) (R_f6 : f6_R) (R_f7 : f7_R) (R_f8 : f8_R) (R_f9 : f9_R) (R_f10 : f10_R) (R_f11 : f11_R) (R_f12 : f12_R) (R_f13 : f13_R) (R_f15 : f15_R) (R_f14 : f14_R) (hR_f4 : AnsOk Try.prog 4 (f4_cOf R_f4)) (hR_f5 : AnsOk Try.prog 5 (f5_cOf R_f5)) (hR_f6 : AnsOk Try.prog 6 (f6_cOf R_f6)) (hR_f7 : AnsOk Try.prog 7 (f7_cOf R_f7)) (hR_f8 : AnsOk Try.prog 8 (f8_cOf R_f8)) (hR_f9 : AnsOk Try.prog 9 (f9_cOf R_f9)) (hR_f10 : AnsOk Try.prog 10 (f10_cOf R_f10)) (hR_f11 : AnsOk Try.prog 11 (f11_cOf R_f11)) (hR_f12 : AnsOk Try.prog 12 (f12_cOf R_f12)) (hR_f13 : AnsOk Try.prog 13 (f13_cOf R_f13)) (hR_f15 : AnsOk Try.prog 15 (f15_cOf R_f15)) (hR_f14 : AnsOk Try.prog 14 (f14_cOf R_f14)) (k : Nat) (K : Out → Option X)  (r1 : St → Option X) (v : (List CV) × (List CV) × Int × Int × Int × Nat × Bool × (List CV)) : loopB (f3_cx R_f4 R_f5 R_f6 R_f7 R_f8 R_f9 R_f10 R_f11 R_f12 R_f13 R_f15 R_f14 hR_f4 hR_f5 hR_f6 hR_f7 hR_f8 hR_f9 hR_f10 hR_f11 hR_f12 hR_f13 hR_f15 hR_f14) k [.r, .r, .r, .r, .r, .r, .b] (Try.f3.body.getD .skip) (retK (f3_cx R_f4 R_f5 R_f6 R_f7 R_f8 R_f9 R_f10 R_f11 R_f12 R_f13 R_f15 R_f14 hR_f4 hR_f5 hR_f6 hR_f7 hR_f8 hR_f9 hR_f10 hR_f11 hR_f12 hR_f13 hR_f15 hR_f14) [] Try.f3.results.toList K) [] r1 (f3_S1 v) = f3_T1 R_f4 R_f5 R_f6 R_f7 R_f8 R_f9 R_f10 R_f11 R_f12 R_f13 R_f15 R_f14 k (fun u => K (f3_out u))   (fun v => r1 (f3_S1 v)) v := by kernel_rfl
theorem f3_L1_it {X : Type} (R_f4 : f4_R) (R_f5 : f5_R) (R_f6 : f6_R) (R_f7 : f7_R) (R_f8 : f8_R) (R_f9 : f9_R) (R_f10 : f10_R) (R_f11 : f11_R) (R_f12 : f12_R) (R_f13 : f13_R) (R_f15 : f15_R) (R_f14 : f14_R) (hR_f4 : AnsOk Try.prog 4 (f4_cOf R_f4)) (hR_f5 : AnsOk Try.prog 5 (f5_cOf R_f5)) (hR_f6 : AnsOk Try.prog 6 (f6_cOf R_f6)) (hR_f7 : AnsOk Try.prog 7 (f7_cOf R_f7)) (hR_f8 : AnsOk Try.prog 8 (f8_cOf R_f8)) (hR_f9 : AnsOk Try.prog 9 (f9_cOf R_f9)) (hR_f10 : AnsOk Try.prog 10 (f10_cOf R_f10)) (hR_f11 : AnsOk Try.prog 11 (f11_cOf R_f11)) (hR_f12 : AnsOk Try.prog 12 (f12_cOf R_f12)) (hR_f13 : AnsOk Try.prog 13 (f13_cOf R_f13)) (hR_f15 : AnsOk Try.prog 15 (f15_cOf R_f15)) (hR_f14 : AnsOk Try.prog 14 (f14_cOf R_f14)) (k : Nat) (K : Out → Option X)  : (fun v => iter (loopB (f3_cx R_f4 R_f5 R_f6 R_f7 R_f8 R_f9 R_f10 R_f11 R_f12 R_f13 R_f15 R_f14 hR_f4 hR_f5 hR_f6 hR_f7 hR_f8 hR_f9 hR_f10 hR_f11 hR_f12 hR_f13 hR_f15 hR_f14) k [.r, .r, .r, .r, .r, .r, .b] (Try.f3.body.getD .skip) (retK (f3_cx R_f4 R_f5 R_f6 R_f7 R_f8 R_f9 R_f10 R_f11 R_f12 R_f13 R_f15 R_f14 hR_f4 hR_f5 hR_f6 hR_f7 hR_f8 hR_f9 hR_f10 hR_f11 hR_f12 hR_f13 hR_f15 hR_f14) [] Try.f3.results.toList K) []) k (f3_S1 v)) = iterV (f3_L1 R_f4 R_f5 R_f6 R_f7 R_f8 R_f9 R_f10 R_f11 R_f12 R_f13 R_f15 R_f14 k (fun u => K (f3_out u)) ) k :=
  iter_map (fun r1 v => (f3_L1_ev R_f4 R_f5 R_f6 R_f7 R_f8 R_f9 R_f10 R_f11 R_f12 R_f13 R_f15 R_f14 hR_f4 hR_f5 hR_f6 hR_f7 hR_f8 hR_f9 hR_f10 hR_f11 hR_f12 hR_f13 hR_f15 hR_f14 k K  r1 v).trans rfl) k
def f3_T {X : Type} (R_f4 : f4_R) (R_f5 : f5_R) (R_f6 : f6_R) (R_f7 : f7_R) (R_f8 : f8_R) (R_f9 : f9_R) (R_f10 : f10_R) (R_f11 : f11_R) (R_f12 : f12_R) (R_f13 : f13_R) (R_f15 : f15_R) (R_f14 : f14_R) (k : Nat) (K : Bool → Option X) (loop1 : (List CV) × (List CV) × Int × Int × Int × Nat × Bool × (List CV) → Option X) (x0 : List CV) (x1 : Int) (x2 : List CV) : Option X :=
R_f4 _ (fun u2 =>
(bif (!u2) then
K (false)
else
(bif (decide ((Nat.cast ((List.length x0)) : Int) > 3000)) then
K (true)
else
(bif (decide ((Nat.cast ((List.length x2)) : Int) > 8)) then
K (true)
else
grd (decide (0 ≤ (Int.tmod (bop .and .i64 x1 1023) 7))) <|
R_f5 _ (fun u3 =>
loop1 (x0, x2, (IntKind.wrap .i64 (16 * 2 ^ (min (Int.toNat (Int.tmod (bop .and .i64 x1 1023) 7)) 64))), 0, u3.1, 0, false, u3.2)) ((Nat.cast ((List.length x0)) : Int)))))) 
/-- "outpost/outposttop.WholeBlocks" -/
def f3_A (R_f4 : f4_R) (R_f5 : f5_R) (R_f6 : f6_R) (R_f7 : f7_R) (R_f8 : f8_R) (R_f9 : f9_R) (R_f10 : f10_R) (R_f11 : f11_R) (R_f12 : f12_R) (R_f13 : f13_R) (R_f15 : f15_R) (R_f14 : f14_R) (k : Nat) : f3_R := fun X K x0 x1 x2 => f3_T R_f4 R_f5 R_f6 R_f7 R_f8 R_f9 R_f10 R_f11 R_f12 R_f13 R_f15 R_f14 k K (iterV (f3_L1 R_f4 R_f5 R_f6 R_f7 R_f8 R_f9 R_f10 R_f11 R_f12 R_f13 R_f15 R_f14 k K) k) x0 x1 x2
set_option maxRecDepth 100000 in
theorem f3_ev' {X : Type} (R_f4 : f4_R) (R_f5 : f5_R) (R_f6 : f6_R) (R_f7 : f7_R) (R_f8 : f8_R) (R_f9 : f9_R) (R_f10 : f10_R) (R_f11 : f11_R) (R_f12 : f12_R) (R_f13 : f13_R) (R_f15 : f15_R) (R_f14 : f14_R) (hR_f4 : AnsOk Try.prog 4 (f4_cOf R_f4)) (hR_f5 : AnsOk Try.prog 5 (f5_cOf R_f5)) (hR_f6 : AnsOk Try.prog 6 (f6_cOf R_f6)) (hR_f7 : AnsOk Try.prog 7 (f7_cOf R_f7)) (hR_f8 : AnsOk Try.prog 8 (f8_cOf R_f8)) (hR_f9 : AnsOk Try.prog 9 (f9_cOf R_f9)) (hR_f10 : AnsOk Try.prog 10 (f10_cOf R_f10)) (hR_f11 : AnsOk Try.prog 11 (f11_cOf R_f11)) (hR_f12 : AnsOk Try.prog 12 (f12_cOf R_f12)) (hR_f13 : AnsOk Try.prog 13 (f13_cOf R_f13)) (hR_f15 : AnsOk Try.prog 15 (f15_cOf R_f15)) (hR_f14 : AnsOk Try.prog 14 (f14_cOf R_f14)) (k : Nat) (K : Out → Option X) (x0 : List CV) (x1 : Int) (x2 : List CV) : evFn (f3_cx R_f4 R_f5 R_f6 R_f7 R_f8 R_f9 R_f10 R_f11 R_f12 R_f13 R_f15 R_f14 hR_f4 hR_f5 hR_f6 hR_f7 hR_f8 hR_f9 hR_f10 hR_f11 hR_f12 hR_f13 hR_f15 hR_f14) [] k Try.f3.ntmps Try.f3.results.toList (Try.f3.body.getD .skip) [(.sl true none x0), (.v (CV.int .i64 x1)), (.sl true none x2)] [] K = f3_T R_f4 R_f5 R_f6 R_f7 R_f8 R_f9 R_f10 R_f11 R_f12 R_f13 R_f15 R_f14 k (fun u => K (f3_out u)) (fun v => iter (loopB (f3_cx R_f4 R_f5 R_f6 R_f7 R_f8 R_f9 R_f10 R_f11 R_f12 R_f13 R_f15 R_f14 hR_f4 hR_f5 hR_f6 hR_f7 hR_f8 hR_f9 hR_f10 hR_f11 hR_f12 hR_f13 hR_f15 hR_f14) k [.r, .r, .r, .r, .r, .r, .b] (Try.f3.body.getD .skip) (retK (f3_cx R_f4 R_f5 R_f6 R_f7 R_f8 R_f9 R_f10 R_f11 R_f12 R_f13 R_f15 R_f14 hR_f4 hR_f5 hR_f6 hR_f7 hR_f8 hR_f9 hR_f10 hR_f11 hR_f12 hR_f13 hR_f15 hR_f14) [] Try.f3.results.toList K) []) k (f3_S1 v)) x0 x1 x2 := by kernel_rfl
theorem f3_ev {X : Type} (R_f4 : f4_R) (R_f5 : f5_R) (R_f6 : f6_R) (R_f7 : f7_R) (R_f8 : f8_R) (R_f9 : f9_R) (R_f10 : f10_R) (R_f11 : f11_R) (R_f12 : f12_R) (R_f13 : f13_R) (R_f15 : f15_R) (R_f14 : f14_R) (hR_f4 : AnsOk Try.prog 4 (f4_cOf R_f4)) (hR_f5 : AnsOk Try.prog 5 (f5_cOf R_f5)) (hR_f6 : AnsOk Try.prog 6 (f6_cOf R_f6)) (hR_f7 : AnsOk Try.prog 7 (f7_cOf R_f7)) (hR_f8 : AnsOk Try.prog 8 (f8_cOf R_f8)) (hR_f9 : AnsOk Try.prog 9 (f9_cOf R_f9)) (hR_f10 : AnsOk Try.prog 10 (f10_cOf R_f10)) (hR_f11 : AnsOk Try.prog 11 (f11_cOf R_f11)) (hR_f12 : AnsOk Try.prog 12 (f12_cOf R_f12)) (hR_f13 : AnsOk Try.prog 13 (f13_cOf R_f13)) (hR_f15 : AnsOk Try.prog 15 (f15_cOf R_f15)) (hR_f14 : AnsOk Try.prog 14 (f14_cOf R_f14)) (k : Nat) (K : Out → Option X) (x0 : List CV) (x1 : Int) (x2 : List CV) : evFn (f3_cx R_f4 R_f5 R_f6 R_f7 R_f8 R_f9 R_f10 R_f11 R_f12 R_f13 R_f15 R_f14 hR_f4 hR_f5 hR_f6 hR_f7 hR_f8 hR_f9 hR_f10 hR_f11 hR_f12 hR_f13 hR_f15 hR_f14) [] k Try.f3.ntmps Try.f3.results.toList (Try.f3.body.getD .skip) [(.sl true none x0), (.v (CV.int .i64 x1)), (.sl true none x2)] [] K = f3_A R_f4 R_f5 R_f6 R_f7 R_f8 R_f9 R_f10 R_f11 R_f12 R_f13 R_f15 R_f14 k X (fun u => K (f3_out u)) x0 x1 x2 := (f3_ev' R_f4 R_f5 R_f6 R_f7 R_f8 R_f9 R_f10 R_f11 R_f12 R_f13 R_f15 R_f14 hR_f4 hR_f5 hR_f6 hR_f7 hR_f8 hR_f9 hR_f10 hR_f11 hR_f12 hR_f13 hR_f15 hR_f14 k K x0 x1 x2).trans (by rw [f3_L1_it R_f4 R_f5 R_f6 R_f7 R_f8 R_f9 R_f10 R_f11 R_f12 R_f13 R_f15 R_f14 hR_f4 hR_f5 hR_f6 hR_f7 hR_f8 hR_f9 hR_f10 hR_f11 hR_f12 hR_f13 hR_f15 hR_f14 k K]; rfl)
theorem f3_okA (R_f4 : f4_R) (R_f5 : f5_R) (R_f6 : f6_R) (R_f7 : f7_R) (R_f8 : f8_R) (R_f9 : f9_R) (R_f10 : f10_R) (R_f11 : f11_R) (R_f12 : f12_R) (R_f13 : f13_R) (R_f15 : f15_R) (R_f14 : f14_R) (hR_f4 : AnsOk Try.prog 4 (f4_cOf R_f4)) (hR_f5 : AnsOk Try.prog 5 (f5_cOf R_f5)) (hR_f6 : AnsOk Try.prog 6 (f6_cOf R_f6)) (hR_f7 : AnsOk Try.prog 7 (f7_cOf R_f7)) (hR_f8 : AnsOk Try.prog 8 (f8_cOf R_f8)) (hR_f9 : AnsOk Try.prog 9 (f9_cOf R_f9)) (hR_f10 : AnsOk Try.prog 10 (f10_cOf R_f10)) (hR_f11 : AnsOk Try.prog 11 (f11_cOf R_f11)) (hR_f12 : AnsOk Try.prog 12 (f12_cOf R_f12)) (hR_f13 : AnsOk Try.prog 13 (f13_cOf R_f13)) (hR_f15 : AnsOk Try.prog 15 (f15_cOf R_f15)) (hR_f14 : AnsOk Try.prog 14 (f14_cOf R_f14)) (k : Nat) : AnsOk Try.prog 3 (f3_cOf (f3_A R_f4 R_f5 R_f6 R_f7 R_f8 R_f9 R_f10 R_f11 R_f12 R_f13 R_f15 R_f14 k)) := by
  intro X xs ns K x h
  unfold f3_cOf at h ⊢
  split at h
  · exact ans_main S (f3_Cok R_f4 R_f5 R_f6 R_f7 R_f8 R_f9 R_f10 R_f11 R_f12 R_f13 R_f15 R_f14 hR_f4 hR_f5 hR_f6 hR_f7 hR_f8 hR_f9 hR_f10 hR_f11 hR_f12 hR_f13 hR_f15 hR_f14) Try.func3 (ent_of Try.func3 (by kernel_rfl) rfl) rfl (fun X K => f3_ev R_f4 R_f5 R_f6 R_f7 R_f8 R_f9 R_f10 R_f11 R_f12 R_f13 R_f15 R_f14 hR_f4 hR_f5 hR_f6 hR_f7 hR_f8 hR_f9 hR_f10 hR_f11 hR_f12 hR_f13 hR_f15 hR_f14 k K _ _ _) h
  · cases h
/-- "outpost/outposttop.WholeBlocks" -/
def f3 {X : Type} (k : Nat) (K : Bool → Option X) (x0 : List CV) (x1 : Int) (x2 : List CV) : Option X := f3_A (fun X => @f4 X k) (fun X => @f5 X k) (fun X => @f6 X k) (fun X => @f7 X k) (fun X => @f8 X k) (fun X => @f9 X k) (fun X => @f10 X k) (fun X => @f11 X k) (fun X => @f12 X k) (fun X => @f13 X k) (fun X => @f15 X k) (fun X => @f14 X k) k X K x0 x1 x2
theorem f3_ok (k : Nat) : AnsOk Try.prog 3 (f3_cOf (fun X => @f3 X k)) := f3_okA (fun X => @f4 X k) (fun X => @f5 X k) (fun X => @f6 X k) (fun X => @f7 X k) (fun X => @f8 X k) (fun X => @f9 X k) (fun X => @f10 X k) (fun X => @f11 X k) (fun X => @f12 X k) (fun X => @f13 X k) (fun X => @f15 X k) (fun X => @f14 X k) (f4_ok k) (f5_ok k) (f6_ok k) (f7_ok k) (f8_ok k) (f9_ok k) (f10_ok k) (f11_ok k) (f12_ok k) (f13_ok k) (f15_ok k) (f14_ok k) k
end Go.Proofs.YtglpldigkhhddaaD
