/- Functions of the program, as plain Lean functions: each with the proof that the evaluator computes it. (Printed by wip/dec/dec.py.) -/
import Derived.Test.YtlmefodpnhpghaaTN
import Derived.Test.YtlmefodpnhpghaaTO
import Derived.Test.YtlmefodpnhpghaaProg
import Derived.Test.YtlmefodpnhpghaaChecked
namespace Go.Proofs.YtlmefodpnhpghaaD
open Go Go.Proofs.YtlmefodpnhpghaaS Go.Proofs
set_option linter.unusedVariables false
def rows : List (Nat × TI) := [
  (2, ⟨(.int .i64), 1, 8, .v (.int .i64 0)⟩),
  (3, ⟨(.int .i64), 1, 8, .v (.int .i64 0)⟩),
  (4, ⟨.bool, 1, 1, .v (.bool false)⟩),
  (5, ⟨(.int .u8), 1, 1, .v (.int .u8 0)⟩),
  (9, ⟨.str, 1, 16, .v (.str ⟨#[]⟩)⟩),
  (22, ⟨(.slice 5), 1, 24, .nil0 none⟩),
  (23, ⟨(.slice 2), 1, 24, .nil0 none⟩),
  (25, ⟨(.ptr 61), 1, 8, .v .nilp⟩),
  (28, ⟨(.int .i64), 1, 8, .v (.int .i64 0)⟩),
  (30, ⟨(.slice 33), 1, 24, .nil0 (some 4)⟩),
  (33, ⟨(.struct [(0, 3), (1, 3), (2, 22), (3, 4)]), 4, 48, .agg [.v (.int .i64 0), .v (.int .i64 0), .nil0 none, .v (.bool false)]⟩),
  (37, ⟨(.slice 40), 1, 24, .nil0 (some 6)⟩),
  (40, ⟨(.struct [(0, 3), (1, 3), (2, 3), (3, 22), (4, 2), (5, 3)]), 6, 64, .agg [.v (.int .i64 0), .v (.int .i64 0), .v (.int .i64 0), .nil0 none, .v (.int .i64 0), .v (.int .i64 0)]⟩),
  (42, ⟨(.slice 68), 1, 24, .nil0 (some 4)⟩),
  (48, ⟨(.slice 71), 1, 24, .nil0 (some 6)⟩),
  (50, ⟨(.struct [(0, 48), (1, 2)]), 2, 32, .agg [.nil0 (some 6), .v (.int .i64 0)]⟩),
  (59, ⟨(.slice 64), 1, 24, .nil0 (some 6)⟩),
  (61, ⟨(.struct [(0, 59), (1, 2)]), 2, 32, .agg [.nil0 (some 6), .v (.int .i64 0)]⟩),
  (64, ⟨(.struct [(0, 3), (1, 3), (2, 22), (3, 2), (4, 2), (5, 3)]), 6, 64, .agg [.v (.int .i64 0), .v (.int .i64 0), .nil0 none, .v (.int .i64 0), .v (.int .i64 0), .v (.int .i64 0)]⟩),
  (68, ⟨(.struct [(0, 3), (1, 3), (2, 22), (3, 4)]), 4, 48, .agg [.v (.int .i64 0), .v (.int .i64 0), .nil0 none, .v (.bool false)]⟩),
  (71, ⟨(.struct [(0, 3), (1, 3), (2, 22), (3, 2), (4, 2), (5, 3)]), 6, 64, .agg [.v (.int .i64 0), .v (.int .i64 0), .nil0 none, .v (.int .i64 0), .v (.int .i64 0), .v (.int .i64 0)]⟩),
  (73, ⟨(.ptr 64), 1, 8, .v .nilp⟩)]
set_option maxRecDepth 100000 in
theorem rows_ok : rowsAre Try.prog rows = true := by kernel_rfl
def S : Seat Try.prog := ⟨rows, rows_ok, Try.checked.mixed⟩
def md (g : FuncId) (i : Nat) : Nat := (bif Nat.beq g 32 && Nat.beq i 0 then 1 else (bif Nat.beq g 31 && Nat.beq i 0 then 2 else (bif Nat.beq g 22 && Nat.beq i 0 then 1 else (bif Nat.beq g 20 && Nat.beq i 0 then 1 else 0))))
def setCell {X : Type} (e : CV) (j : Nat) (c : CV) (K : CV → Option X) : Option X := match e with
  | .agg ds => grd (Nat.blt j ds.length) (K (.agg (ds.set j c)))
  | _ => none
def f8_plan : Nat → Option (List Nat × List Wk)
  | 0 => some ([], [])
  | 1 => some ([], [])
  | _ => none
def f8_C (k : Nat) : Fns := noC
theorem f8_Cok (k : Nat) : CsOk Try.prog (f8_C k) := noC_ok
def f8_cx (k : Nat) : Cx := mkCx (tabOf rows) (f8_C k) md f8_plan (f8_Cok k)
def f8_out (u : (List CV)) : Out := ⟨(.ptr [2000] 0 0 0), [([2000], (.obj [(.osl [0, 2000] (some 6) 0 0), (.v (CV.int .i64 0))])), ([0, 2000], (.row false (some 6) u))]⟩
def f8_T {X : Type} (k : Nat) (K : (List CV) → Option X)   : Option X :=
K ((List.take 0 []))
/-- "outpost/exch.New" -/
def f8 {X : Type} (k : Nat) (K : (List CV) → Option X)  : Option X := f8_T k K  
set_option maxRecDepth 100000 in
theorem f8_ev' {X : Type} (k : Nat) (K : Out → Option X)  : evFn (f8_cx k) [] k Try.f8.ntmps Try.f8.results.toList (Try.f8.body.getD .skip) [] [] K = f8_T k (fun u => K (f8_out u))  := by kernel_rfl
theorem f8_ev {X : Type} (k : Nat) (K : Out → Option X)  : evFn (f8_cx k) [] k Try.f8.ntmps Try.f8.results.toList (Try.f8.body.getD .skip) [] [] K = f8 k (fun u => K (f8_out u))  := (f8_ev' k K ).trans rfl
def f8_c (k : Nat) : FnC := fun X xs ns K => match xs, ns with
  | [], [] => f8 k (fun u => K (f8_out u)) 
  | _, _ => none
theorem f8_ok (k : Nat) : AnsOk Try.prog 8 (f8_c k) := by
  intro X xs ns K x h
  unfold f8_c at h ⊢
  split at h
  · exact ans_main S (f8_Cok k) Try.func8 (ent_of Try.func8 (by kernel_rfl) rfl) rfl (fun X K => f8_ev k K ) h
  · cases h
def f26_plan : Nat → Option (List Nat × List Wk)
  | 0 => some ([0, 1], [])
  | _ => none
def f26_C (k : Nat) : Fns := noC
theorem f26_Cok (k : Nat) : CsOk Try.prog (f26_C k) := noC_ok
def f26_cx (k : Nat) : Cx := mkCx (tabOf rows) (f26_C k) md f26_plan (f26_Cok k)
def f26_out (u : Nat × Int × (List CV)) : Out := ⟨(.tup []), [([1000], (.obj [(.osl [0, 1000] (some 6) 0 u.1), (.v (CV.int .i64 u.2.1))])), ([0, 1000], (.row false (some 6) u.2.2))]⟩
def f26_T {X : Type} (k : Nat) (K : Nat × Int × (List CV) → Option X)  (x0 : Int) (x1 : Nat) (x2 : Int) (x3 : List CV) : Option X :=
K (x1, (if 1099511627776 < (if x2 > x0 then x2 else x0) then 1099511627776 else (if x2 > x0 then x2 else x0)), (List.take (0 + x1) x3))
/-- "(*outpost/exch.Table).pass" -/
def f26 {X : Type} (k : Nat) (K : Nat × Int × (List CV) → Option X) (x0 : Int) (x1 : Nat) (x2 : Int) (x3 : List CV) : Option X := f26_T k K  x0 x1 x2 x3
set_option maxRecDepth 100000 in
theorem f26_ev' {X : Type} (k : Nat) (K : Out → Option X) (x0 : Int) (x1 : Nat) (x2 : Int) (x3 : List CV) : evFn (f26_cx k) [] k Try.f26.ntmps Try.f26.results.toList (Try.f26.body.getD .skip) [(.ptr [1000] 0 0 0), (.v (CV.int .i64 x0))] [([1000], (.obj [(.osl [0, 1000] (some 6) 0 x1), (.v (CV.int .i64 x2))])), ([0, 1000], (.row false (some 6) x3))] K = f26_T k (fun u => K (f26_out u)) x0 x1 x2 x3 := by kernel_rfl
theorem f26_ev {X : Type} (k : Nat) (K : Out → Option X) (x0 : Int) (x1 : Nat) (x2 : Int) (x3 : List CV) : evFn (f26_cx k) [] k Try.f26.ntmps Try.f26.results.toList (Try.f26.body.getD .skip) [(.ptr [1000] 0 0 0), (.v (CV.int .i64 x0))] [([1000], (.obj [(.osl [0, 1000] (some 6) 0 x1), (.v (CV.int .i64 x2))])), ([0, 1000], (.row false (some 6) x3))] K = f26 k (fun u => K (f26_out u)) x0 x1 x2 x3 := (f26_ev' k K x0 x1 x2 x3).trans rfl
def f26_c (k : Nat) : FnC := fun X xs ns K => match xs, ns with
  | [(.ptr [1000] 0 0 0), (.v (CV.int .i64 x0))], [([1000], (.obj [(.osl [0, 1000] (some 6) 0 x1), (.v (CV.int .i64 x2))])), ([0, 1000], (.row false (some 6) x3))] => f26 k (fun u => K (f26_out u)) x0 x1 x2 x3
  | _, _ => none
theorem f26_ok (k : Nat) : AnsOk Try.prog 26 (f26_c k) := by
  intro X xs ns K x h
  unfold f26_c at h ⊢
  split at h
  · exact ans_main S (f26_Cok k) Try.func26 (ent_of Try.func26 (by kernel_rfl) rfl) rfl (fun X K => f26_ev k K _ _ _ _) h
  · cases h
def f35_plan : Nat → Option (List Nat × List Wk)
  | 0 => some ([0, 1, 2], [])
  | 1 => some ([1, 2, 3], [])
  | _ => none
def f35_C (k : Nat) : Fns := noC
theorem f35_Cok (k : Nat) : CsOk Try.prog (f35_C k) := noC_ok
def f35_cx (k : Nat) : Cx := mkCx (tabOf rows) (f35_C k) md f35_plan (f35_Cok k)
def f35_out (u : Bool) : Out := ⟨(.v (CV.bool u)), []⟩
def f35_T {X : Type} (k : Nat) (K : Bool → Option X)  (x0 : CV) (x1 : Int) (x2 : Int) : Option X :=
grd (CV.isA 6 x0) <|
grd (CV.isI .i64 (CV.cellD 0 x0)) <|
grd (CV.isI .i64 (CV.cellD 1 x0)) <|
grd (CV.isL none (CV.cellD 2 x0)) <|
grd (CV.isI .i64 (CV.cellD 3 x0)) <|
grd (CV.isI .i64 (CV.cellD 4 x0)) <|
grd (CV.isI .i64 (CV.cellD 5 x0)) <|
(bif ((CV.toI (CV.cellD 0 x0)) == x1) then
K (((CV.toI (CV.cellD 1 x0)) == x2))
else
K (false))
/-- "(*outpost/exch.Table).index$1" -/
def f35 {X : Type} (k : Nat) (K : Bool → Option X) (x0 : CV) (x1 : Int) (x2 : Int) : Option X := f35_T k K  x0 x1 x2
set_option maxRecDepth 100000 in
theorem f35_ev' {X : Type} (k : Nat) (K : Out → Option X) (x0 : CV) (x1 : Int) (x2 : Int) : evFn (f35_cx k) [] k Try.f35.ntmps Try.f35.results.toList (Try.f35.body.getD .skip) [(.v x0), (.bptr none (CV.int .i64 x1) 0), (.bptr none (CV.int .i64 x2) 0)] [] K = f35_T k (fun u => K (f35_out u)) x0 x1 x2 := by kernel_rfl
theorem f35_ev {X : Type} (k : Nat) (K : Out → Option X) (x0 : CV) (x1 : Int) (x2 : Int) : evFn (f35_cx k) [] k Try.f35.ntmps Try.f35.results.toList (Try.f35.body.getD .skip) [(.v x0), (.bptr none (CV.int .i64 x1) 0), (.bptr none (CV.int .i64 x2) 0)] [] K = f35 k (fun u => K (f35_out u)) x0 x1 x2 := (f35_ev' k K x0 x1 x2).trans rfl
def f35_c (k : Nat) : FnC := fun X xs ns K => match xs, ns with
  | [(.v x0), (.bptr none (CV.int .i64 x1) 0), (.bptr none (CV.int .i64 x2) 0)], [] => f35 k (fun u => K (f35_out u)) x0 x1 x2
  | _, _ => none
theorem f35_ok (k : Nat) : AnsOk Try.prog 35 (f35_c k) := by
  intro X xs ns K x h
  unfold f35_c at h ⊢
  split at h
  · exact ans_main S (f35_Cok k) Try.func35 (ent_of Try.func35 (by kernel_rfl) rfl) rfl (fun X K => f35_ev k K _ _ _) h
  · cases h
def f34_plan : Nat → Option (List Nat × List Wk)
  | 0 => some ([0, 1], [])
  | 1 => some ([0, 1], [])
  | 2 => some ([0, 1, 7, 8], [])
  | 3 => some ([0, 1, 7, 8], [])
  | 4 => some ([0, 1, 5, 7, 8], [])
  | 5 => some ([5], [])
  | 6 => some ([0, 1, 7, 8], [])
  | 7 => some ([], [])
  | _ => none
def f34_C (k : Nat) : Fns := (orC 35 (f35_c k) noC)
theorem f34_Cok (k : Nat) : CsOk Try.prog (f34_C k) := (orC_ok (f35_ok k) noC_ok)
def f34_cx (k : Nat) : Cx := mkCx (tabOf rows) (f34_C k) md f34_plan (f34_Cok k)
def f34_out (u : Int) : Out := ⟨(.v (CV.int .i64 u)), []⟩
def f34_S1 (v : (List CV) × Int × Int × Int × Int) : St := ⟨[(.sl false (some 6) v.1), (.fn 35 [(.bptr none (CV.int .i64 v.2.1) 0), (.bptr none (CV.int .i64 v.2.2.1) 0)]), .undef, .undef, .undef, .undef, .undef, (.v (CV.int .i64 v.2.2.2.1)), (.v (CV.int .i64 v.2.2.2.2)), .undef, .undef, .undef, .undef, .undef, .undef, .undef, .undef, .undef, .undef], []⟩
def f34_T1 {X : Type} (k : Nat) (K : Int → Option X)   (rec1 : (List CV) × Int × Int × Int × Int → Option X) (v4_0 : (List CV) × Int × Int × Int × Int) : Option X :=
(bif (decide (v4_0.2.2.2.2 < v4_0.2.2.2.1)) then
grd (decide (0 ≤ v4_0.2.2.2.2)) <|
Option.bind (v4_0.1)[(Int.toNat v4_0.2.2.2.2)]? fun e8 =>
f35 k (fun u9 =>
(bif u9 then
K (v4_0.2.2.2.2)
else
rec1 (v4_0.1, v4_0.2.1, v4_0.2.2.1, v4_0.2.2.2.1, (IntKind.wrap .i64 (v4_0.2.2.2.2 + 1))))) (e8) (v4_0.2.1) (v4_0.2.2.1)
else
K ((-1)))
def f34_L1 {X : Type} (k : Nat) (K : Int → Option X)  (rec1 : (List CV) × Int × Int × Int × Int → Option X) (v : (List CV) × Int × Int × Int × Int) : Option X := f34_T1 k K   rec1 v
set_option maxRecDepth 100000 in
theorem f34_L1_ev {X : Type} (k : Nat) (K : Out → Option X)  (r1 : St → Option X) (v : (List CV) × Int × Int × Int × Int) : loopB (f34_cx k) k [.r, .l, .r, .b] (Try.f34.body.getD .skip) (retK (f34_cx k) [] Try.f34.results.toList K) [] r1 (f34_S1 v) = f34_T1 k (fun u => K (f34_out u))   (fun v => r1 (f34_S1 v)) v := by kernel_rfl
theorem f34_L1_it {X : Type} (k : Nat) (K : Out → Option X)  : (fun v => iter (loopB (f34_cx k) k [.r, .l, .r, .b] (Try.f34.body.getD .skip) (retK (f34_cx k) [] Try.f34.results.toList K) []) k (f34_S1 v)) = iterV (f34_L1 k (fun u => K (f34_out u)) ) k :=
  iter_map (fun r1 v => (f34_L1_ev k K  r1 v).trans rfl) k
def f34_T {X : Type} (k : Nat) (K : Int → Option X) (loop1 : (List CV) × Int × Int × Int × Int → Option X) (x0 : List CV) (x1 : Int) (x2 : Int) : Option X :=
loop1 (x0, x1, x2, (Nat.cast ((List.length x0)) : Int), 0)
/-- "slices.IndexFunc[[]outpost/exch.exchange,outpost/exch.exchange]" -/
def f34 {X : Type} (k : Nat) (K : Int → Option X) (x0 : List CV) (x1 : Int) (x2 : Int) : Option X := f34_T k K (iterV (f34_L1 k K) k) x0 x1 x2
set_option maxRecDepth 100000 in
theorem f34_ev' {X : Type} (k : Nat) (K : Out → Option X) (x0 : List CV) (x1 : Int) (x2 : Int) : evFn (f34_cx k) [] k Try.f34.ntmps Try.f34.results.toList (Try.f34.body.getD .skip) [(.sl false (some 6) x0), (.fn 35 [(.bptr none (CV.int .i64 x1) 0), (.bptr none (CV.int .i64 x2) 0)])] [] K = f34_T k (fun u => K (f34_out u)) (fun v => iter (loopB (f34_cx k) k [.r, .l, .r, .b] (Try.f34.body.getD .skip) (retK (f34_cx k) [] Try.f34.results.toList K) []) k (f34_S1 v)) x0 x1 x2 := by kernel_rfl
theorem f34_ev {X : Type} (k : Nat) (K : Out → Option X) (x0 : List CV) (x1 : Int) (x2 : Int) : evFn (f34_cx k) [] k Try.f34.ntmps Try.f34.results.toList (Try.f34.body.getD .skip) [(.sl false (some 6) x0), (.fn 35 [(.bptr none (CV.int .i64 x1) 0), (.bptr none (CV.int .i64 x2) 0)])] [] K = f34 k (fun u => K (f34_out u)) x0 x1 x2 := (f34_ev' k K x0 x1 x2).trans (by rw [f34_L1_it k K]; rfl)
def f34_c (k : Nat) : FnC := fun X xs ns K => match xs, ns with
  | [(.sl false (some 6) x0), (.fn 35 [(.bptr none (CV.int .i64 x1) 0), (.bptr none (CV.int .i64 x2) 0)])], [] => f34 k (fun u => K (f34_out u)) x0 x1 x2
  | _, _ => none
theorem f34_ok (k : Nat) : AnsOk Try.prog 34 (f34_c k) := by
  intro X xs ns K x h
  unfold f34_c at h ⊢
  split at h
  · exact ans_main S (f34_Cok k) Try.func34 (ent_of Try.func34 (by kernel_rfl) rfl) rfl (fun X K => f34_ev k K _ _ _) h
  · cases h
def f30_plan : Nat → Option (List Nat × List Wk)
  | 0 => some ([0, 1, 2], [])
  | 1 => some ([0, 4, 5], [])
  | _ => none
def f30_C (k : Nat) : Fns := (orC 34 (f34_c k) noC)
theorem f30_Cok (k : Nat) : CsOk Try.prog (f30_C k) := (orC_ok (f34_ok k) noC_ok)
def f30_cx (k : Nat) : Cx := mkCx (tabOf rows) (f30_C k) md f30_plan (f30_Cok k)
def f30_out (u : Int × Nat × Int × (List CV)) : Out := ⟨(.v (CV.int .i64 u.1)), [([1000], (.obj [(.osl [0, 1000] (some 6) 0 u.2.1), (.v (CV.int .i64 u.2.2.1))])), ([0, 1000], (.row false (some 6) u.2.2.2))]⟩
def f30_T {X : Type} (k : Nat) (K : Int × Nat × Int × (List CV) → Option X)  (x0 : Int) (x1 : Int) (x2 : Nat) (x3 : Int) (x4 : List CV) : Option X :=
f34 k (fun u1 =>
K (u1, x2, x3, (List.take (0 + x2) x4))) ((List.take x2 (List.drop 0 x4))) (x0) (x1)
/-- "(*outpost/exch.Table).index" -/
def f30 {X : Type} (k : Nat) (K : Int × Nat × Int × (List CV) → Option X) (x0 : Int) (x1 : Int) (x2 : Nat) (x3 : Int) (x4 : List CV) : Option X := f30_T k K  x0 x1 x2 x3 x4
set_option maxRecDepth 100000 in
theorem f30_ev' {X : Type} (k : Nat) (K : Out → Option X) (x0 : Int) (x1 : Int) (x2 : Nat) (x3 : Int) (x4 : List CV) : evFn (f30_cx k) [] k Try.f30.ntmps Try.f30.results.toList (Try.f30.body.getD .skip) [(.ptr [1000] 0 0 0), (.v (CV.int .i64 x0)), (.v (CV.int .i64 x1))] [([1000], (.obj [(.osl [0, 1000] (some 6) 0 x2), (.v (CV.int .i64 x3))])), ([0, 1000], (.row false (some 6) x4))] K = f30_T k (fun u => K (f30_out u)) x0 x1 x2 x3 x4 := by kernel_rfl
theorem f30_ev {X : Type} (k : Nat) (K : Out → Option X) (x0 : Int) (x1 : Int) (x2 : Nat) (x3 : Int) (x4 : List CV) : evFn (f30_cx k) [] k Try.f30.ntmps Try.f30.results.toList (Try.f30.body.getD .skip) [(.ptr [1000] 0 0 0), (.v (CV.int .i64 x0)), (.v (CV.int .i64 x1))] [([1000], (.obj [(.osl [0, 1000] (some 6) 0 x2), (.v (CV.int .i64 x3))])), ([0, 1000], (.row false (some 6) x4))] K = f30 k (fun u => K (f30_out u)) x0 x1 x2 x3 x4 := (f30_ev' k K x0 x1 x2 x3 x4).trans rfl
def f30_c (k : Nat) : FnC := fun X xs ns K => match xs, ns with
  | [(.ptr [1000] 0 0 0), (.v (CV.int .i64 x0)), (.v (CV.int .i64 x1))], [([1000], (.obj [(.osl [0, 1000] (some 6) 0 x2), (.v (CV.int .i64 x3))])), ([0, 1000], (.row false (some 6) x4))] => f30 k (fun u => K (f30_out u)) x0 x1 x2 x3 x4
  | _, _ => none
theorem f30_ok (k : Nat) : AnsOk Try.prog 30 (f30_c k) := by
  intro X xs ns K x h
  unfold f30_c at h ⊢
  split at h
  · exact ans_main S (f30_Cok k) Try.func30 (ent_of Try.func30 (by kernel_rfl) rfl) rfl (fun X K => f30_ev k K _ _ _ _ _) h
  · cases h
def f13_plan : Nat → Option (List Nat × List Wk)
  | 0 => some ([0, 1, 2], [])
  | 1 => some ([0, 1, 2], [])
  | _ => none
def f13_C (k : Nat) : Fns := (orC 30 (f30_c k) noC)
theorem f13_Cok (k : Nat) : CsOk Try.prog (f13_C k) := (orC_ok (f30_ok k) noC_ok)
def f13_cx (k : Nat) : Cx := mkCx (tabOf rows) (f13_C k) md f13_plan (f13_Cok k)
def f13_out (u : Bool × Nat × Int × (List CV)) : Out := ⟨(.v (CV.bool u.1)), [([1000], (.obj [(.osl [0, 1000] (some 6) 0 u.2.1), (.v (CV.int .i64 u.2.2.1))])), ([0, 1000], (.row false (some 6) u.2.2.2))]⟩
def f13_T {X : Type} (k : Nat) (K : Bool × Nat × Int × (List CV) → Option X)  (x0 : Int) (x1 : Int) (x2 : Nat) (x3 : Int) (x4 : List CV) : Option X :=
f30 k (fun u1 =>
K ((decide (u1.1 ≥ 0)), u1.2.1, u1.2.2.1, (List.take (0 + u1.2.1) u1.2.2.2))) (x0) (x1) (x2) (x3) (x4)
/-- "(*outpost/exch.Table).Has" -/
def f13 {X : Type} (k : Nat) (K : Bool × Nat × Int × (List CV) → Option X) (x0 : Int) (x1 : Int) (x2 : Nat) (x3 : Int) (x4 : List CV) : Option X := f13_T k K  x0 x1 x2 x3 x4
set_option maxRecDepth 100000 in
theorem f13_ev' {X : Type} (k : Nat) (K : Out → Option X) (x0 : Int) (x1 : Int) (x2 : Nat) (x3 : Int) (x4 : List CV) : evFn (f13_cx k) [] k Try.f13.ntmps Try.f13.results.toList (Try.f13.body.getD .skip) [(.ptr [1000] 0 0 0), (.v (CV.int .i64 x0)), (.v (CV.int .i64 x1))] [([1000], (.obj [(.osl [0, 1000] (some 6) 0 x2), (.v (CV.int .i64 x3))])), ([0, 1000], (.row false (some 6) x4))] K = f13_T k (fun u => K (f13_out u)) x0 x1 x2 x3 x4 := by kernel_rfl
theorem f13_ev {X : Type} (k : Nat) (K : Out → Option X) (x0 : Int) (x1 : Int) (x2 : Nat) (x3 : Int) (x4 : List CV) : evFn (f13_cx k) [] k Try.f13.ntmps Try.f13.results.toList (Try.f13.body.getD .skip) [(.ptr [1000] 0 0 0), (.v (CV.int .i64 x0)), (.v (CV.int .i64 x1))] [([1000], (.obj [(.osl [0, 1000] (some 6) 0 x2), (.v (CV.int .i64 x3))])), ([0, 1000], (.row false (some 6) x4))] K = f13 k (fun u => K (f13_out u)) x0 x1 x2 x3 x4 := (f13_ev' k K x0 x1 x2 x3 x4).trans rfl
def f13_c (k : Nat) : FnC := fun X xs ns K => match xs, ns with
  | [(.ptr [1000] 0 0 0), (.v (CV.int .i64 x0)), (.v (CV.int .i64 x1))], [([1000], (.obj [(.osl [0, 1000] (some 6) 0 x2), (.v (CV.int .i64 x3))])), ([0, 1000], (.row false (some 6) x4))] => f13 k (fun u => K (f13_out u)) x0 x1 x2 x3 x4
  | _, _ => none
theorem f13_ok (k : Nat) : AnsOk Try.prog 13 (f13_c k) := by
  intro X xs ns K x h
  unfold f13_c at h ⊢
  split at h
  · exact ans_main S (f13_Cok k) Try.func13 (ent_of Try.func13 (by kernel_rfl) rfl) rfl (fun X K => f13_ev k K _ _ _ _ _) h
  · cases h
def f27_plan : Nat → Option (List Nat × List Wk)
  | 0 => some ([0], [])
  | 1 => some ([0], [])
  | 2 => some ([], [])
  | 3 => some ([0], [])
  | _ => none
def f27_cx : Cx := mkCx (tabOf rows) noC md f27_plan (noC_ok (P := Try.prog))
/-- "slices.Clone[[]byte,byte]" -/
def f27 {X : Type} (k : Nat) (K : List CV → Option X) (x0 : List CV) : Option X := grd (decide ((0 + List.length x0) * 1 ≤ 140737488355328)) (K x0)
def f27_out (u : List CV) : Out := ⟨.osl [2000] none 0 (List.length u), [([2000], .row false none u)]⟩
set_option maxRecDepth 100000 in
theorem f27_fn (x0 : List CV) (hl : (decide ((0 + List.length x0) * 1 ≤ 140737488355328)) = true) : FnOk Try.prog 27 [.sl false none x0] [] (f27_out x0) := by
  refine nilsplit (cx := f27_cx) (xs := x0) (p := false) (sh := none) (fuel := 1) (ws := [⟨0, [], some [2000]⟩]) (tabOf_tabOk S.hr) (tabOf_noOther S.hr) (CsOk.fns (noC_ok (P := Try.prog))) S.hm Try.func27 rfl rfl Try.underlying22 (s1 := ⟨[(.sl false none x0), .undef, (.nil0 none), .undef, .undef, .undef, .undef, .undef], []⟩) (s2 := ⟨[(.sl false none x0), .undef, .undef, .undef, .undef, .undef, .undef, .undef], []⟩) (s3 := ⟨[(.sl false none x0), .undef, .undef, (.sl false none x0), .undef, .undef, .undef, .undef], []⟩) ?_ ?_ ?_ rfl ?_ (fun h => ?_) ⟨rfl, rfl⟩
  · kernel_rfl
  · kernel_rfl
  · kernel_rfl
  · refine Eq.trans (b := grd (decide ((0 + List.length x0) * 1 ≤ 140737488355328)) (some ⟨.osl [2000] none 0 (0 + List.length x0), [([2000], .row false none (List.take (0 + (0 + List.length x0)) (List.take 0 [] ++ x0)))]⟩)) (by kernel_rfl) ?_
    rw [hl]
    simp [grd, f27_out]
  · subst h
    kernel_rfl
def f27_c (k : Nat) : FnC := fun X xs ns K => match xs, ns with
  | [.sl false none x0], [] => f27 k (fun u => K (f27_out u)) x0
  | _, _ => none
theorem f27_ok (k : Nat) : AnsOk Try.prog 27 (f27_c k) := by
  intro X xs ns K x h
  unfold f27_c at h ⊢
  split at h
  · next x0 =>
    obtain ⟨h1, h2⟩ := grd_some (show grd (decide ((0 + List.length x0) * 1 ≤ 140737488355328)) (K (f27_out x0)) = some x from h)
    exact ⟨ent_of Try.func27 (by kernel_rfl) rfl, _, f27_fn x0 h1, h2, fun Y K' => by show grd _ _ = _; rw [h1]; rfl⟩
  · cases h
def f10_plan : Nat → Option (List Nat × List Wk)
  | 0 => some ([0, 1, 2, 3, 4, 5], [])
  | 1 => some ([0, 1, 2, 3, 4, 5], [])
  | 2 => some ([0, 1, 2, 3, 5], [])
  | 3 => some ([], [])
  | 4 => some ([0, 1, 2, 3, 5], [])
  | 5 => some ([], [])
  | 6 => some ([0, 1, 2, 3, 5], [])
  | 7 => some ([0, 1, 2, 3, 13], [])
  | 8 => some ([], [])
  | _ => none
def f10_C (k : Nat) : Fns := (orC 13 (f13_c k) (orC 26 (f26_c k) (orC 27 (f27_c k) noC)))
theorem f10_Cok (k : Nat) : CsOk Try.prog (f10_C k) := (orC_ok (f13_ok k) (orC_ok (f26_ok k) (orC_ok (f27_ok k) noC_ok)))
def f10_cx (k : Nat) : Cx := mkCx (tabOf rows) (f10_C k) md f10_plan (f10_Cok k)
def f10_out (u : Int × Nat × Int × (List CV)) : Out := ⟨(.v (CV.int .i64 u.1)), [([1000], (.obj [(.osl [0, 1000] (some 6) 0 u.2.1), (.v (CV.int .i64 u.2.2.1))])), ([0, 1000], (.row false (some 6) u.2.2.2))]⟩
def f10_T {X : Type} (k : Nat) (K : Int × Nat × Int × (List CV) → Option X)  (x0 : Int) (x1 : Int) (x2 : List CV) (x3 : Int) (x4 : Int) (x5 : Nat) (x6 : Int) (x7 : List CV) : Option X :=
f26 k (fun u1 =>
f13 k (fun u3 =>
(bif u3.1 then
K (5, u3.2.1, u3.2.2.1, (List.take (0 + u3.2.1) u3.2.2.2))
else
(bif (decide ((Nat.cast (u3.2.1) : Int) ≥ 4)) then
K (6, u3.2.1, u3.2.2.1, (List.take (0 + u3.2.1) u3.2.2.2))
else
f27 k (fun u4 =>
grd (decide ((u3.2.1 + (List.length (List.take 1 (List.drop 0 [(CV.agg [(CV.int .i64 x0), (CV.int .i64 x1), (CV.slc none (List.take (List.length u4) (List.drop 0 u4))), (CV.int .i64 (if 1099511627776 < (IntKind.wrap .i64 (u3.2.2.1 + (IntKind.wrap .i64 (20 + (Int.tmod (if 0 > x4 then 0 else x4) 11))))) then 1099511627776 else (IntKind.wrap .i64 (u3.2.2.1 + (IntKind.wrap .i64 (20 + (Int.tmod (if 0 > x4 then 0 else x4) 11))))))), (CV.int .i64 (IntKind.wrap .i64 (20 + (Int.tmod (if 0 > x4 then 0 else x4) 11)))), (CV.int .i64 4)])])))) * 64 ≤ 140737488355328)) <|
K (0, (u3.2.1 + (List.length (List.take 1 (List.drop 0 [(CV.agg [(CV.int .i64 x0), (CV.int .i64 x1), (CV.slc none (List.take (List.length u4) (List.drop 0 u4))), (CV.int .i64 (if 1099511627776 < (IntKind.wrap .i64 (u3.2.2.1 + (IntKind.wrap .i64 (20 + (Int.tmod (if 0 > x4 then 0 else x4) 11))))) then 1099511627776 else (IntKind.wrap .i64 (u3.2.2.1 + (IntKind.wrap .i64 (20 + (Int.tmod (if 0 > x4 then 0 else x4) 11))))))), (CV.int .i64 (IntKind.wrap .i64 (20 + (Int.tmod (if 0 > x4 then 0 else x4) 11)))), (CV.int .i64 4)])])))), u3.2.2.1, (List.take (0 + (u3.2.1 + (List.length (List.take 1 (List.drop 0 [(CV.agg [(CV.int .i64 x0), (CV.int .i64 x1), (CV.slc none (List.take (List.length u4) (List.drop 0 u4))), (CV.int .i64 (if 1099511627776 < (IntKind.wrap .i64 (u3.2.2.1 + (IntKind.wrap .i64 (20 + (Int.tmod (if 0 > x4 then 0 else x4) 11))))) then 1099511627776 else (IntKind.wrap .i64 (u3.2.2.1 + (IntKind.wrap .i64 (20 + (Int.tmod (if 0 > x4 then 0 else x4) 11))))))), (CV.int .i64 (IntKind.wrap .i64 (20 + (Int.tmod (if 0 > x4 then 0 else x4) 11)))), (CV.int .i64 4)])]))))) ((List.take u3.2.1 u3.2.2.2) ++ (List.take 1 (List.drop 0 [(CV.agg [(CV.int .i64 x0), (CV.int .i64 x1), (CV.slc none (List.take (List.length u4) (List.drop 0 u4))), (CV.int .i64 (if 1099511627776 < (IntKind.wrap .i64 (u3.2.2.1 + (IntKind.wrap .i64 (20 + (Int.tmod (if 0 > x4 then 0 else x4) 11))))) then 1099511627776 else (IntKind.wrap .i64 (u3.2.2.1 + (IntKind.wrap .i64 (20 + (Int.tmod (if 0 > x4 then 0 else x4) 11))))))), (CV.int .i64 (IntKind.wrap .i64 (20 + (Int.tmod (if 0 > x4 then 0 else x4) 11)))), (CV.int .i64 4)])])))))) (x2)))) (x0) (x1) (u1.1) (u1.2.1) (u1.2.2)) (x3) (x5) (x6) (x7)
/-- "(*outpost/exch.Table).Start" -/
def f10 {X : Type} (k : Nat) (K : Int × Nat × Int × (List CV) → Option X) (x0 : Int) (x1 : Int) (x2 : List CV) (x3 : Int) (x4 : Int) (x5 : Nat) (x6 : Int) (x7 : List CV) : Option X := f10_T k K  x0 x1 x2 x3 x4 x5 x6 x7
set_option maxRecDepth 100000 in
theorem f10_ev' {X : Type} (k : Nat) (K : Out → Option X) (x0 : Int) (x1 : Int) (x2 : List CV) (x3 : Int) (x4 : Int) (x5 : Nat) (x6 : Int) (x7 : List CV) : evFn (f10_cx k) [] k Try.f10.ntmps Try.f10.results.toList (Try.f10.body.getD .skip) [(.ptr [1000] 0 0 0), (.v (CV.int .i64 x0)), (.v (CV.int .i64 x1)), (.sl false none x2), (.v (CV.int .i64 x3)), (.v (CV.int .i64 x4))] [([1000], (.obj [(.osl [0, 1000] (some 6) 0 x5), (.v (CV.int .i64 x6))])), ([0, 1000], (.row false (some 6) x7))] K = f10_T k (fun u => K (f10_out u)) x0 x1 x2 x3 x4 x5 x6 x7 := by kernel_rfl
theorem f10_ev {X : Type} (k : Nat) (K : Out → Option X) (x0 : Int) (x1 : Int) (x2 : List CV) (x3 : Int) (x4 : Int) (x5 : Nat) (x6 : Int) (x7 : List CV) : evFn (f10_cx k) [] k Try.f10.ntmps Try.f10.results.toList (Try.f10.body.getD .skip) [(.ptr [1000] 0 0 0), (.v (CV.int .i64 x0)), (.v (CV.int .i64 x1)), (.sl false none x2), (.v (CV.int .i64 x3)), (.v (CV.int .i64 x4))] [([1000], (.obj [(.osl [0, 1000] (some 6) 0 x5), (.v (CV.int .i64 x6))])), ([0, 1000], (.row false (some 6) x7))] K = f10 k (fun u => K (f10_out u)) x0 x1 x2 x3 x4 x5 x6 x7 := (f10_ev' k K x0 x1 x2 x3 x4 x5 x6 x7).trans rfl
def f10_c (k : Nat) : FnC := fun X xs ns K => match xs, ns with
  | [(.ptr [1000] 0 0 0), (.v (CV.int .i64 x0)), (.v (CV.int .i64 x1)), (.sl false none x2), (.v (CV.int .i64 x3)), (.v (CV.int .i64 x4))], [([1000], (.obj [(.osl [0, 1000] (some 6) 0 x5), (.v (CV.int .i64 x6))])), ([0, 1000], (.row false (some 6) x7))] => f10 k (fun u => K (f10_out u)) x0 x1 x2 x3 x4 x5 x6 x7
  | _, _ => none
theorem f10_ok (k : Nat) : AnsOk Try.prog 10 (f10_c k) := by
  intro X xs ns K x h
  unfold f10_c at h ⊢
  split at h
  · exact ans_main S (f10_Cok k) Try.func10 (ent_of Try.func10 (by kernel_rfl) rfl) rfl (fun X K => f10_ev k K _ _ _ _ _ _ _ _) h
  · cases h
def f28_plan : Nat → Option (List Nat × List Wk)
  | 0 => some ([0], [])
  | 1 => some ([0], [])
  | 2 => some ([0, 3], [])
  | 3 => some ([0, 3, 9, 10, 11], [])
  | 4 => some ([0, 3, 9, 10, 11], [])
  | 5 => some ([0, 3, 4, 5, 9, 10, 11], [])
  | 6 => some ([0, 4, 9, 10, 11], [])
  | 7 => some ([0, 3, 9, 10, 11], [])
  | 8 => some ([3], [])
  | _ => none
def f28_C (k : Nat) : Fns := noC
theorem f28_Cok (k : Nat) : CsOk Try.prog (f28_C k) := noC_ok
def f28_cx (k : Nat) : Cx := mkCx (tabOf rows) (f28_C k) md f28_plan (f28_Cok k)
def f28_out (u : Int × Nat × Int × (List CV)) : Out := ⟨(.v (CV.int .i64 u.1)), [([1000], (.obj [(.osl [0, 1000] (some 6) 0 u.2.1), (.v (CV.int .i64 u.2.2.1))])), ([0, 1000], (.row false (some 6) u.2.2.2))]⟩
def f28_S1 (v : Int × Nat × Int × Int × Nat × Int × (List CV)) : St := ⟨[(.ptr [1000] 0 0 0), .undef, .undef, (.v (CV.int .i64 v.1)), .undef, .undef, .undef, .undef, .undef, (.osl [0, 1000] (some 6) 0 v.2.1), (.v (CV.int .i64 v.2.2.1)), (.v (CV.int .i64 v.2.2.2.1)), .undef, .undef, .undef, .undef, .undef, .undef, .undef, .undef, .undef, .undef, .undef, .undef, .undef, .undef, .undef, .undef, .undef, .undef, .undef, .undef, .undef, .undef], [([1000], (.obj [(.osl [0, 1000] (some 6) 0 v.2.2.2.2.1), (.v (CV.int .i64 v.2.2.2.2.2.1))])), ([0, 1000], (.row false (some 6) v.2.2.2.2.2.2))]⟩
def f28_J1 {X : Type} (k : Nat) (K : Int × Nat × Int × (List CV) → Option X) (rec1 : Int × Nat × Int × Int × Nat × Int × (List CV) → Option X) (v5_0 : Int × Nat × Int × Int × Nat × Int × (List CV)) (v11 : Int) : Option X :=
rec1 (v11, v5_0.2.1, v5_0.2.2.1, (IntKind.wrap .i64 (v5_0.2.2.2.1 + 1)), v5_0.2.2.2.2.1, v5_0.2.2.2.2.2.1, v5_0.2.2.2.2.2.2)
def f28_T1 {X : Type} (k : Nat) (K : Int × Nat × Int × (List CV) → Option X)   (rec1 : Int × Nat × Int × Int × Nat × Int × (List CV) → Option X) (v5_0 : Int × Nat × Int × Int × Nat × Int × (List CV)) : Option X :=
(bif (decide (v5_0.2.2.2.1 < v5_0.2.2.1)) then
grd (decide (0 ≤ v5_0.2.2.2.1)) <|
grd (decide (v5_0.2.2.2.1 < (Nat.cast (v5_0.2.1) : Int))) <|
Option.bind (v5_0.2.2.2.2.2.2)[(0 + (Int.toNat v5_0.2.2.2.1))]? fun e12 =>
grd (CV.isA 6 e12) <|
grd (CV.isI .i64 (CV.cellD 0 e12)) <|
grd (CV.isI .i64 (CV.cellD 1 e12)) <|
grd (CV.isL none (CV.cellD 2 e12)) <|
grd (CV.isI .i64 (CV.cellD 3 e12)) <|
grd (CV.isI .i64 (CV.cellD 4 e12)) <|
grd (CV.isI .i64 (CV.cellD 5 e12)) <|
(bif (decide (v5_0.1 < 0)) then
f28_J1 k K rec1 v5_0 (v5_0.2.2.2.1)
else
grd (decide (0 ≤ v5_0.1)) <|
grd (decide (v5_0.1 < (Nat.cast (v5_0.2.2.2.2.1) : Int))) <|
Option.bind (v5_0.2.2.2.2.2.2)[(0 + (Int.toNat v5_0.1))]? fun e13 =>
Option.bind (CV.cell e13 3) fun c14 =>
grd (CV.isI .i64 c14) <|
(bif (decide ((CV.toI (CV.cellD 3 e12)) < (CV.toI c14))) then
f28_J1 k K rec1 v5_0 (v5_0.2.2.2.1)
else
f28_J1 k K rec1 v5_0 (v5_0.1)))
else
K (v5_0.1, v5_0.2.2.2.2.1, v5_0.2.2.2.2.2.1, (List.take (0 + v5_0.2.2.2.2.1) v5_0.2.2.2.2.2.2)))
def f28_L1 {X : Type} (k : Nat) (K : Int × Nat × Int × (List CV) → Option X)  (rec1 : Int × Nat × Int × Int × Nat × Int × (List CV) → Option X) (v : Int × Nat × Int × Int × Nat × Int × (List CV)) : Option X := f28_T1 k K   rec1 v
set_option maxRecDepth 100000 in
theorem f28_L1_ev {X : Type} (k : Nat) (K : Out → Option X)  (r1 : St → Option X) (v : Int × Nat × Int × Int × Nat × Int × (List CV)) : loopB (f28_cx k) k [.r, .r, .l, .r, .b] (Try.f28.body.getD .skip) (retK (f28_cx k) [] Try.f28.results.toList K) [] r1 (f28_S1 v) = f28_T1 k (fun u => K (f28_out u))   (fun v => r1 (f28_S1 v)) v := by kernel_rfl
theorem f28_L1_it {X : Type} (k : Nat) (K : Out → Option X)  : (fun v => iter (loopB (f28_cx k) k [.r, .r, .l, .r, .b] (Try.f28.body.getD .skip) (retK (f28_cx k) [] Try.f28.results.toList K) []) k (f28_S1 v)) = iterV (f28_L1 k (fun u => K (f28_out u)) ) k :=
  iter_map (fun r1 v => (f28_L1_ev k K  r1 v).trans rfl) k
def f28_T {X : Type} (k : Nat) (K : Int × Nat × Int × (List CV) → Option X) (loop1 : Int × Nat × Int × Int × Nat × Int × (List CV) → Option X) (x0 : Nat) (x1 : Int) (x2 : List CV) : Option X :=
loop1 ((-1), x0, (Nat.cast (x0) : Int), 0, x0, x1, x2)
/-- "(*outpost/exch.Table).first" -/
def f28 {X : Type} (k : Nat) (K : Int × Nat × Int × (List CV) → Option X) (x0 : Nat) (x1 : Int) (x2 : List CV) : Option X := f28_T k K (iterV (f28_L1 k K) k) x0 x1 x2
set_option maxRecDepth 100000 in
theorem f28_ev' {X : Type} (k : Nat) (K : Out → Option X) (x0 : Nat) (x1 : Int) (x2 : List CV) : evFn (f28_cx k) [] k Try.f28.ntmps Try.f28.results.toList (Try.f28.body.getD .skip) [(.ptr [1000] 0 0 0)] [([1000], (.obj [(.osl [0, 1000] (some 6) 0 x0), (.v (CV.int .i64 x1))])), ([0, 1000], (.row false (some 6) x2))] K = f28_T k (fun u => K (f28_out u)) (fun v => iter (loopB (f28_cx k) k [.r, .r, .l, .r, .b] (Try.f28.body.getD .skip) (retK (f28_cx k) [] Try.f28.results.toList K) []) k (f28_S1 v)) x0 x1 x2 := by kernel_rfl
theorem f28_ev {X : Type} (k : Nat) (K : Out → Option X) (x0 : Nat) (x1 : Int) (x2 : List CV) : evFn (f28_cx k) [] k Try.f28.ntmps Try.f28.results.toList (Try.f28.body.getD .skip) [(.ptr [1000] 0 0 0)] [([1000], (.obj [(.osl [0, 1000] (some 6) 0 x0), (.v (CV.int .i64 x1))])), ([0, 1000], (.row false (some 6) x2))] K = f28 k (fun u => K (f28_out u)) x0 x1 x2 := (f28_ev' k K x0 x1 x2).trans (by rw [f28_L1_it k K]; rfl)
def f28_c (k : Nat) : FnC := fun X xs ns K => match xs, ns with
  | [(.ptr [1000] 0 0 0)], [([1000], (.obj [(.osl [0, 1000] (some 6) 0 x0), (.v (CV.int .i64 x1))])), ([0, 1000], (.row false (some 6) x2))] => f28 k (fun u => K (f28_out u)) x0 x1 x2
  | _, _ => none
theorem f28_ok (k : Nat) : AnsOk Try.prog 28 (f28_c k) := by
  intro X xs ns K x h
  unfold f28_c at h ⊢
  split at h
  · exact ans_main S (f28_Cok k) Try.func28 (ent_of Try.func28 (by kernel_rfl) rfl) rfl (fun X K => f28_ev k K _ _ _) h
  · cases h
def f19_plan : Nat → Option (List Nat × List Wk)
  | 0 => some ([0], [])
  | 1 => some ([0], [])
  | 2 => some ([0, 4], [])
  | 3 => some ([], [])
  | 4 => some ([0, 4], [])
  | _ => none
def f19_C (k : Nat) : Fns := (orC 28 (f28_c k) noC)
theorem f19_Cok (k : Nat) : CsOk Try.prog (f19_C k) := (orC_ok (f28_ok k) noC_ok)
def f19_cx (k : Nat) : Cx := mkCx (tabOf rows) (f19_C k) md f19_plan (f19_Cok k)
def f19_out (u : Int × Bool × Nat × Int × (List CV)) : Out := ⟨(.tup [(.v (CV.int .i64 u.1)), (.v (CV.bool u.2.1))]), [([1000], (.obj [(.osl [0, 1000] (some 6) 0 u.2.2.1), (.v (CV.int .i64 u.2.2.2.1))])), ([0, 1000], (.row false (some 6) u.2.2.2.2))]⟩
def f19_T {X : Type} (k : Nat) (K : Int × Bool × Nat × Int × (List CV) → Option X)  (x0 : Nat) (x1 : Int) (x2 : List CV) : Option X :=
f28 k (fun u1 =>
(bif (decide (u1.1 < 0)) then
K (0, false, u1.2.1, u1.2.2.1, (List.take (0 + u1.2.1) u1.2.2.2))
else
grd (decide (0 ≤ u1.1)) <|
grd (decide (u1.1 < (Nat.cast (u1.2.1) : Int))) <|
Option.bind (u1.2.2.2)[(0 + (Int.toNat u1.1))]? fun e2 =>
Option.bind (CV.cell e2 3) fun c3 =>
grd (CV.isI .i64 c3) <|
K ((CV.toI c3), true, u1.2.1, u1.2.2.1, (List.take (0 + u1.2.1) u1.2.2.2)))) (x0) (x1) (x2)
/-- "(*outpost/exch.Table).Next" -/
def f19 {X : Type} (k : Nat) (K : Int × Bool × Nat × Int × (List CV) → Option X) (x0 : Nat) (x1 : Int) (x2 : List CV) : Option X := f19_T k K  x0 x1 x2
set_option maxRecDepth 100000 in
theorem f19_ev' {X : Type} (k : Nat) (K : Out → Option X) (x0 : Nat) (x1 : Int) (x2 : List CV) : evFn (f19_cx k) [] k Try.f19.ntmps Try.f19.results.toList (Try.f19.body.getD .skip) [(.ptr [1000] 0 0 0)] [([1000], (.obj [(.osl [0, 1000] (some 6) 0 x0), (.v (CV.int .i64 x1))])), ([0, 1000], (.row false (some 6) x2))] K = f19_T k (fun u => K (f19_out u)) x0 x1 x2 := by kernel_rfl
theorem f19_ev {X : Type} (k : Nat) (K : Out → Option X) (x0 : Nat) (x1 : Int) (x2 : List CV) : evFn (f19_cx k) [] k Try.f19.ntmps Try.f19.results.toList (Try.f19.body.getD .skip) [(.ptr [1000] 0 0 0)] [([1000], (.obj [(.osl [0, 1000] (some 6) 0 x0), (.v (CV.int .i64 x1))])), ([0, 1000], (.row false (some 6) x2))] K = f19 k (fun u => K (f19_out u)) x0 x1 x2 := (f19_ev' k K x0 x1 x2).trans rfl
def f19_c (k : Nat) : FnC := fun X xs ns K => match xs, ns with
  | [(.ptr [1000] 0 0 0)], [([1000], (.obj [(.osl [0, 1000] (some 6) 0 x0), (.v (CV.int .i64 x1))])), ([0, 1000], (.row false (some 6) x2))] => f19 k (fun u => K (f19_out u)) x0 x1 x2
  | _, _ => none
theorem f19_ok (k : Nat) : AnsOk Try.prog 19 (f19_c k) := by
  intro X xs ns K x h
  unfold f19_c at h ⊢
  split at h
  · exact ans_main S (f19_Cok k) Try.func19 (ent_of Try.func19 (by kernel_rfl) rfl) rfl (fun X K => f19_ev k K _ _ _) h
  · cases h
def f31_plan : Nat → Option (List Nat × List Wk)
  | 0 => some ([0, 1, 2], [])
  | 1 => some ([0, 1, 2], [])
  | 2 => some ([0, 1, 2], [])
  | 3 => some ([0], [])
  | 4 => some ([0, 1, 2], [])
  | 5 => some ([0, 1, 2, 7], [])
  | 6 => some ([0, 7], [])
  | 7 => some ([0], [])
  | _ => none
def f31_C (k : Nat) : Fns := noC
theorem f31_Cok (k : Nat) : CsOk Try.prog (f31_C k) := noC_ok
def f31_cx (k : Nat) : Cx := mkCx (tabOf rows) (f31_C k) md f31_plan (f31_Cok k)
def f31_out (u : Nat × (List CV)) : Out := ⟨(.osl [2000] (some 6) 0 u.1), [([2000], (.row false (some 6) u.2))]⟩
def f31_T {X : Type} (k : Nat) (K : Nat × (List CV) → Option X)  (x0 : Nat) (x1 : Int) (x2 : Int) (x3 : List CV) : Option X :=
grd (decide (0 ≤ x1)) <|
grd (decide (x1 ≤ x2)) <|
grd (decide (x2 ≤ (Nat.cast (x0) : Int))) <|
grd (decide ((Nat.cast (x0) : Int) ≤ ((Nat.cast ((List.length x3)) : Int) - (0 : Int)))) <|
(bif (x1 == x2) then
K (x0, (List.take (0 + x0) x3))
else
grd (decide (0 ≤ x1)) <|
grd (decide (x1 ≤ ((Nat.cast ((List.length x3)) : Int) - 0))) <|
grd (decide (0 ≤ x2)) <|
grd (decide (x2 ≤ (Nat.cast (x0) : Int))) <|
grd (decide ((Nat.cast (x0) : Int) ≤ (Nat.cast (x0) : Int))) <|
grd (decide (((0 + ((Int.toNat x1) - 0)) + (List.length (List.take (x0 - (Int.toNat x2)) (List.drop (0 + (Int.toNat x2)) x3)))) ≤ (List.length x3))) <|
grd (decide ((Nat.cast ((((Int.toNat x1) - 0) + (List.length (List.take (x0 - (Int.toNat x2)) (List.drop (0 + (Int.toNat x2)) x3))))) : Int) ≤ (Nat.cast (x0) : Int))) <|
grd (decide ((Nat.cast (x0) : Int) ≤ ((Nat.cast ((List.length ((List.take (0 + ((Int.toNat x1) - 0)) x3) ++ (List.take (x0 - (Int.toNat x2)) (List.drop (0 + (Int.toNat x2)) x3)) ++ (List.drop ((0 + ((Int.toNat x1) - 0)) + (List.length (List.take (x0 - (Int.toNat x2)) (List.drop (0 + (Int.toNat x2)) x3)))) x3)))) : Int) - 0))) <|
grd (decide (((0 + (((Int.toNat x1) - 0) + (List.length (List.take (x0 - (Int.toNat x2)) (List.drop (0 + (Int.toNat x2)) x3))))) + (x0 - (((Int.toNat x1) - 0) + (List.length (List.take (x0 - (Int.toNat x2)) (List.drop (0 + (Int.toNat x2)) x3)))))) ≤ (List.length ((List.take (0 + ((Int.toNat x1) - 0)) x3) ++ (List.take (x0 - (Int.toNat x2)) (List.drop (0 + (Int.toNat x2)) x3)) ++ (List.drop ((0 + ((Int.toNat x1) - 0)) + (List.length (List.take (x0 - (Int.toNat x2)) (List.drop (0 + (Int.toNat x2)) x3)))) x3))))) <|
K ((((Int.toNat x1) - 0) + (List.length (List.take (x0 - (Int.toNat x2)) (List.drop (0 + (Int.toNat x2)) x3)))), (List.take (0 + (((Int.toNat x1) - 0) + (List.length (List.take (x0 - (Int.toNat x2)) (List.drop (0 + (Int.toNat x2)) x3))))) ((List.take (0 + (((Int.toNat x1) - 0) + (List.length (List.take (x0 - (Int.toNat x2)) (List.drop (0 + (Int.toNat x2)) x3))))) ((List.take (0 + ((Int.toNat x1) - 0)) x3) ++ (List.take (x0 - (Int.toNat x2)) (List.drop (0 + (Int.toNat x2)) x3)) ++ (List.drop ((0 + ((Int.toNat x1) - 0)) + (List.length (List.take (x0 - (Int.toNat x2)) (List.drop (0 + (Int.toNat x2)) x3)))) x3))) ++ List.replicate (x0 - (((Int.toNat x1) - 0) + (List.length (List.take (x0 - (Int.toNat x2)) (List.drop (0 + (Int.toNat x2)) x3))))) (CV.agg [(CV.int .i64 0), (CV.int .i64 0), (CV.slc none []), (CV.int .i64 0), (CV.int .i64 0), (CV.int .i64 0)]) ++ (List.drop ((0 + (((Int.toNat x1) - 0) + (List.length (List.take (x0 - (Int.toNat x2)) (List.drop (0 + (Int.toNat x2)) x3))))) + (x0 - (((Int.toNat x1) - 0) + (List.length (List.take (x0 - (Int.toNat x2)) (List.drop (0 + (Int.toNat x2)) x3)))))) ((List.take (0 + ((Int.toNat x1) - 0)) x3) ++ (List.take (x0 - (Int.toNat x2)) (List.drop (0 + (Int.toNat x2)) x3)) ++ (List.drop ((0 + ((Int.toNat x1) - 0)) + (List.length (List.take (x0 - (Int.toNat x2)) (List.drop (0 + (Int.toNat x2)) x3)))) x3)))))))
/-- "slices.Delete[[]outpost/exch.exchange,outpost/exch.exchange]" -/
def f31 {X : Type} (k : Nat) (K : Nat × (List CV) → Option X) (x0 : Nat) (x1 : Int) (x2 : Int) (x3 : List CV) : Option X := f31_T k K  x0 x1 x2 x3
set_option maxRecDepth 100000 in
theorem f31_ev' {X : Type} (k : Nat) (K : Out → Option X) (x0 : Nat) (x1 : Int) (x2 : Int) (x3 : List CV) : evFn (f31_cx k) [] k Try.f31.ntmps Try.f31.results.toList (Try.f31.body.getD .skip) [(.osl [1000] (some 6) 0 x0), (.v (CV.int .i64 x1)), (.v (CV.int .i64 x2))] [([1000], (.row false (some 6) x3))] K = f31_T k (fun u => K (f31_out u)) x0 x1 x2 x3 := by kernel_rfl
theorem f31_ev {X : Type} (k : Nat) (K : Out → Option X) (x0 : Nat) (x1 : Int) (x2 : Int) (x3 : List CV) : evFn (f31_cx k) [] k Try.f31.ntmps Try.f31.results.toList (Try.f31.body.getD .skip) [(.osl [1000] (some 6) 0 x0), (.v (CV.int .i64 x1)), (.v (CV.int .i64 x2))] [([1000], (.row false (some 6) x3))] K = f31 k (fun u => K (f31_out u)) x0 x1 x2 x3 := (f31_ev' k K x0 x1 x2 x3).trans rfl
def f31_c (k : Nat) : FnC := fun X xs ns K => match xs, ns with
  | [(.osl [1000] (some 6) 0 x0), (.v (CV.int .i64 x1)), (.v (CV.int .i64 x2))], [([1000], (.row false (some 6) x3))] => f31 k (fun u => K (f31_out u)) x0 x1 x2 x3
  | _, _ => none
theorem f31_ok (k : Nat) : AnsOk Try.prog 31 (f31_c k) := by
  intro X xs ns K x h
  unfold f31_c at h ⊢
  split at h
  · exact ans_main S (f31_Cok k) Try.func31 (ent_of Try.func31 (by kernel_rfl) rfl) rfl (fun X K => f31_ev k K _ _ _ _) h
  · cases h
def f29_plan : Nat → Option (List Nat × List Wk)
  | 0 => some ([0, 1], [])
  | 1 => some ([0, 1, 4], [])
  | 2 => some ([0, 1, 4, 5], [])
  | 3 => some ([0, 1, 4, 5, 6], [])
  | 4 => some ([0, 1, 4, 6], [])
  | 5 => some ([0, 1, 4, 6], [])
  | 6 => some ([4, 6], [])
  | 7 => some ([4, 5, 6], [])
  | 8 => some ([4, 5, 6], [])
  | 9 => some ([4, 5, 6], [])
  | 10 => some ([4, 6], [])
  | _ => none
def f29_C (k : Nat) : Fns := (orC 27 (f27_c k) (orC 31 (f31_c k) noC))
theorem f29_Cok (k : Nat) : CsOk Try.prog (f29_C k) := (orC_ok (f27_ok k) (orC_ok (f31_ok k) noC_ok))
def f29_cx (k : Nat) : Cx := mkCx (tabOf rows) (f29_C k) md f29_plan (f29_Cok k)
def f29_out (u : Int × Int × Nat × Bool × Nat × Int × (List CV) × (List CV)) : Out := ⟨(.agg [(.v (CV.int .i64 u.1)), (.v (CV.int .i64 u.2.1)), (.osl [2, 2000] none 0 u.2.2.1), (.v (CV.bool u.2.2.2.1))]), [([1000], (.obj [(.osl [0, 1000] (some 6) 0 u.2.2.2.2.1), (.v (CV.int .i64 u.2.2.2.2.2.1))])), ([0, 1000], (.row false (some 6) u.2.2.2.2.2.2.1)), ([2, 2000], (.row false none u.2.2.2.2.2.2.2))]⟩
def f29_T {X : Type} (k : Nat) (K : Int × Int × Nat × Bool × Nat × Int × (List CV) × (List CV) → Option X)  (x0 : Int) (x1 : Nat) (x2 : Int) (x3 : List CV) : Option X :=
grd (decide (0 ≤ x0)) <|
grd (decide (x0 < (Nat.cast (x1) : Int))) <|
Option.bind (x3)[(0 + (Int.toNat x0))]? fun e1 =>
Option.bind (CV.cell e1 0) fun c2 =>
grd (CV.isI .i64 c2) <|
Option.bind (x3)[(0 + (Int.toNat x0))]? fun e3 =>
Option.bind (CV.cell e3 1) fun c4 =>
grd (CV.isI .i64 c4) <|
Option.bind (x3)[(0 + (Int.toNat x0))]? fun e5 =>
Option.bind (CV.cell e5 2) fun c6 =>
grd (CV.isL none c6) <|
f27 k (fun u7 =>
Option.bind (x3)[(0 + (Int.toNat x0))]? fun e11 =>
Option.bind (CV.cell e11 5) fun c12 =>
grd (CV.isI .i64 c12) <|
(bif ((CV.toI c12) == 0) then
f31 k (fun u13 =>
K ((CV.toI c2), (CV.toI c4), (List.length u7), true, u13.1, x2, (List.take (0 + u13.1) u13.2), (List.take (0 + (List.length u7)) u7))) (x1) (x0) ((IntKind.wrap .i64 (x0 + 1))) (x3)
else
Option.bind (x3)[(0 + (Int.toNat x0))]? fun e14 =>
Option.bind (CV.cell e14 5) fun c15 =>
grd (CV.isI .i64 c15) <|
Option.bind (x3)[(0 + (Int.toNat x0))]? fun e16 =>
(setCell e16 5 (CV.int .i64 (IntKind.wrap .i64 ((CV.toI c15) - 1))) fun d17 =>
Option.bind ((List.set x3 (0 + (Int.toNat x0)) d17))[(0 + (Int.toNat x0))]? fun e18 =>
Option.bind (CV.cell e18 4) fun c19 =>
grd (CV.isI .i64 c19) <|
Option.bind ((List.set x3 (0 + (Int.toNat x0)) d17))[(0 + (Int.toNat x0))]? fun e20 =>
(setCell e20 4 (CV.int .i64 (IntKind.wrap .i64 ((CV.toI c19) * 2))) fun d21 =>
Option.bind ((List.set (List.set x3 (0 + (Int.toNat x0)) d17) (0 + (Int.toNat x0)) d21))[(0 + (Int.toNat x0))]? fun e22 =>
Option.bind (CV.cell e22 3) fun c23 =>
grd (CV.isI .i64 c23) <|
Option.bind ((List.set (List.set x3 (0 + (Int.toNat x0)) d17) (0 + (Int.toNat x0)) d21))[(0 + (Int.toNat x0))]? fun e24 =>
Option.bind (CV.cell e24 4) fun c25 =>
grd (CV.isI .i64 c25) <|
Option.bind ((List.set (List.set x3 (0 + (Int.toNat x0)) d17) (0 + (Int.toNat x0)) d21))[(0 + (Int.toNat x0))]? fun e26 =>
(setCell e26 3 (CV.int .i64 (if 1099511627776 < (IntKind.wrap .i64 ((CV.toI c23) + (CV.toI c25))) then 1099511627776 else (IntKind.wrap .i64 ((CV.toI c23) + (CV.toI c25))))) fun d27 =>
K ((CV.toI c2), (CV.toI c4), (List.length u7), false, x1, x2, (List.take (0 + x1) (List.set (List.set (List.set x3 (0 + (Int.toNat x0)) d17) (0 + (Int.toNat x0)) d21) (0 + (Int.toNat x0)) d27)), (List.take (0 + (List.length u7)) u7))))))) ((CV.toL c6))
/-- "(*outpost/exch.Table).up" -/
def f29 {X : Type} (k : Nat) (K : Int × Int × Nat × Bool × Nat × Int × (List CV) × (List CV) → Option X) (x0 : Int) (x1 : Nat) (x2 : Int) (x3 : List CV) : Option X := f29_T k K  x0 x1 x2 x3
set_option maxRecDepth 100000 in
theorem f29_ev' {X : Type} (k : Nat) (K : Out → Option X) (x0 : Int) (x1 : Nat) (x2 : Int) (x3 : List CV) : evFn (f29_cx k) [] k Try.f29.ntmps Try.f29.results.toList (Try.f29.body.getD .skip) [(.ptr [1000] 0 0 0), (.v (CV.int .i64 x0))] [([1000], (.obj [(.osl [0, 1000] (some 6) 0 x1), (.v (CV.int .i64 x2))])), ([0, 1000], (.row false (some 6) x3))] K = f29_T k (fun u => K (f29_out u)) x0 x1 x2 x3 := by kernel_rfl
theorem f29_ev {X : Type} (k : Nat) (K : Out → Option X) (x0 : Int) (x1 : Nat) (x2 : Int) (x3 : List CV) : evFn (f29_cx k) [] k Try.f29.ntmps Try.f29.results.toList (Try.f29.body.getD .skip) [(.ptr [1000] 0 0 0), (.v (CV.int .i64 x0))] [([1000], (.obj [(.osl [0, 1000] (some 6) 0 x1), (.v (CV.int .i64 x2))])), ([0, 1000], (.row false (some 6) x3))] K = f29 k (fun u => K (f29_out u)) x0 x1 x2 x3 := (f29_ev' k K x0 x1 x2 x3).trans rfl
def f29_c (k : Nat) : FnC := fun X xs ns K => match xs, ns with
  | [(.ptr [1000] 0 0 0), (.v (CV.int .i64 x0))], [([1000], (.obj [(.osl [0, 1000] (some 6) 0 x1), (.v (CV.int .i64 x2))])), ([0, 1000], (.row false (some 6) x3))] => f29 k (fun u => K (f29_out u)) x0 x1 x2 x3
  | _, _ => none
theorem f29_ok (k : Nat) : AnsOk Try.prog 29 (f29_c k) := by
  intro X xs ns K x h
  unfold f29_c at h ⊢
  split at h
  · exact ans_main S (f29_Cok k) Try.func29 (ent_of Try.func29 (by kernel_rfl) rfl) rfl (fun X K => f29_ev k K _ _ _ _) h
  · cases h
def f11_plan : Nat → Option (List Nat × List Wk)
  | 0 => some ([0, 1], [])
  | 1 => some ([0, 1], [])
  | 2 => some ([0], [])
  | 3 => some ([0, 5], [⟨5, [], some [5]⟩])
  | 4 => some ([0, 5, 6], [])
  | 5 => some ([5], [])
  | 6 => some ([0, 5, 6], [])
  | _ => none
def f11_C (k : Nat) : Fns := (orC 26 (f26_c k) (orC 28 (f28_c k) (orC 29 (f29_c k) noC)))
theorem f11_Cok (k : Nat) : CsOk Try.prog (f11_C k) := (orC_ok (f26_ok k) (orC_ok (f28_ok k) (orC_ok (f29_ok k) noC_ok)))
def f11_cx (k : Nat) : Cx := mkCx (tabOf rows) (f11_C k) md f11_plan (f11_Cok k)
def f11_out (u : Nat × Nat × Int × (List CV) × (List CV)) : Out := ⟨(.osl [2000] (some 4) 0 u.1), [([1000], (.obj [(.osl [0, 1000] (some 6) 0 u.2.1), (.v (CV.int .i64 u.2.2.1))])), ([0, 1000], (.row false (some 6) u.2.2.2.1)), ([2000], (.row false (some 4) u.2.2.2.2))]⟩
def f11_S1 (v : Nat × (List CV) × Nat × Int × (List CV)) : St := ⟨[(.ptr [1000] 0 0 0), .undef, .undef, .undef, .undef, (.osl [5] (some 4) 0 v.1), .undef, .undef, .undef, .undef, .undef, .undef, .undef, .undef, .undef, .undef, .undef, .undef, .undef, .undef, .undef, .undef, .undef, .undef, .undef, .undef, .undef, .undef, .undef, .undef, .undef, .undef, .undef, .undef, .undef, .undef], [([5], (.row false (some 4) v.2.1)), ([1000], (.obj [(.osl [0, 1000] (some 6) 0 v.2.2.1), (.v (CV.int .i64 v.2.2.2.1))])), ([0, 1000], (.row false (some 6) v.2.2.2.2))]⟩
def f11_T1 {X : Type} (k : Nat) (K : Nat × Nat × Int × (List CV) × (List CV) → Option X)   (rec1 : Nat × (List CV) × Nat × Int × (List CV) → Option X) (v4_1 : Nat × (List CV) × Nat × Int × (List CV)) : Option X :=
f28 k (fun u9 =>
(bif (decide (u9.1 < 0)) then
K (v4_1.1, u9.2.1, u9.2.2.1, (List.take (0 + u9.2.1) u9.2.2.2), (List.take (0 + v4_1.1) v4_1.2.1))
else
grd (decide (0 ≤ u9.1)) <|
grd (decide (u9.1 < (Nat.cast (u9.2.1) : Int))) <|
Option.bind (u9.2.2.2)[(0 + (Int.toNat u9.1))]? fun e12 =>
Option.bind (CV.cell e12 3) fun c13 =>
grd (CV.isI .i64 c13) <|
(bif (decide ((CV.toI c13) > u9.2.2.1)) then
K (v4_1.1, u9.2.1, u9.2.2.1, (List.take (0 + u9.2.1) u9.2.2.2), (List.take (0 + v4_1.1) v4_1.2.1))
else
f29 k (fun u14 =>
grd (decide ((v4_1.1 + (List.length (List.take 1 (List.drop 0 [(CV.agg [(CV.int .i64 u14.1), (CV.int .i64 u14.2.1), (CV.slc none (List.take u14.2.2.1 (List.drop 0 u14.2.2.2.2.2.2.2))), (CV.bool u14.2.2.2.1)])])))) * 48 ≤ 140737488355328)) <|
rec1 ((v4_1.1 + (List.length (List.take 1 (List.drop 0 [(CV.agg [(CV.int .i64 u14.1), (CV.int .i64 u14.2.1), (CV.slc none (List.take u14.2.2.1 (List.drop 0 u14.2.2.2.2.2.2.2))), (CV.bool u14.2.2.2.1)])])))), ((List.take v4_1.1 v4_1.2.1) ++ (List.take 1 (List.drop 0 [(CV.agg [(CV.int .i64 u14.1), (CV.int .i64 u14.2.1), (CV.slc none (List.take u14.2.2.1 (List.drop 0 u14.2.2.2.2.2.2.2))), (CV.bool u14.2.2.2.1)])]))), u14.2.2.2.2.1, u14.2.2.2.2.2.1, u14.2.2.2.2.2.2.1)) (u9.1) (u9.2.1) (u9.2.2.1) (u9.2.2.2)))) (v4_1.2.2.1) (v4_1.2.2.2.1) (v4_1.2.2.2.2)
def f11_L1 {X : Type} (k : Nat) (K : Nat × Nat × Int × (List CV) × (List CV) → Option X)  (rec1 : Nat × (List CV) × Nat × Int × (List CV) → Option X) (v : Nat × (List CV) × Nat × Int × (List CV)) : Option X := f11_T1 k K   rec1 v
set_option maxRecDepth 100000 in
theorem f11_L1_ev {X : Type} (k : Nat) (K : Out → Option X)  (r1 : St → Option X) (v : Nat × (List CV) × Nat × Int × (List CV)) : loopB (f11_cx k) k [.r, .r, .r, .b] (Try.f11.body.getD .skip) (retK (f11_cx k) [] Try.f11.results.toList K) [] r1 (f11_S1 v) = f11_T1 k (fun u => K (f11_out u))   (fun v => r1 (f11_S1 v)) v := by kernel_rfl
theorem f11_L1_it {X : Type} (k : Nat) (K : Out → Option X)  : (fun v => iter (loopB (f11_cx k) k [.r, .r, .r, .b] (Try.f11.body.getD .skip) (retK (f11_cx k) [] Try.f11.results.toList K) []) k (f11_S1 v)) = iterV (f11_L1 k (fun u => K (f11_out u)) ) k :=
  iter_map (fun r1 v => (f11_L1_ev k K  r1 v).trans rfl) k
def f11_T {X : Type} (k : Nat) (K : Nat × Nat × Int × (List CV) × (List CV) → Option X) (loop1 : Nat × (List CV) × Nat × Int × (List CV) → Option X) (x0 : Int) (x1 : Nat) (x2 : Int) (x3 : List CV) : Option X :=
f26 k (fun u1 =>
loop1 (0, [], u1.1, u1.2.1, u1.2.2)) (x0) (x1) (x2) (x3)
/-- "(*outpost/exch.Table).Pass" -/
def f11 {X : Type} (k : Nat) (K : Nat × Nat × Int × (List CV) × (List CV) → Option X) (x0 : Int) (x1 : Nat) (x2 : Int) (x3 : List CV) : Option X := f11_T k K (iterV (f11_L1 k K) k) x0 x1 x2 x3
set_option maxRecDepth 100000 in
theorem f11_ev' {X : Type} (k : Nat) (K : Out → Option X) (x0 : Int) (x1 : Nat) (x2 : Int) (x3 : List CV) : evFn (f11_cx k) [] k Try.f11.ntmps Try.f11.results.toList (Try.f11.body.getD .skip) [(.ptr [1000] 0 0 0), (.v (CV.int .i64 x0))] [([1000], (.obj [(.osl [0, 1000] (some 6) 0 x1), (.v (CV.int .i64 x2))])), ([0, 1000], (.row false (some 6) x3))] K = f11_T k (fun u => K (f11_out u)) (fun v => iter (loopB (f11_cx k) k [.r, .r, .r, .b] (Try.f11.body.getD .skip) (retK (f11_cx k) [] Try.f11.results.toList K) []) k (f11_S1 v)) x0 x1 x2 x3 := by kernel_rfl
theorem f11_ev {X : Type} (k : Nat) (K : Out → Option X) (x0 : Int) (x1 : Nat) (x2 : Int) (x3 : List CV) : evFn (f11_cx k) [] k Try.f11.ntmps Try.f11.results.toList (Try.f11.body.getD .skip) [(.ptr [1000] 0 0 0), (.v (CV.int .i64 x0))] [([1000], (.obj [(.osl [0, 1000] (some 6) 0 x1), (.v (CV.int .i64 x2))])), ([0, 1000], (.row false (some 6) x3))] K = f11 k (fun u => K (f11_out u)) x0 x1 x2 x3 := (f11_ev' k K x0 x1 x2 x3).trans (by rw [f11_L1_it k K]; rfl)
def f11_c (k : Nat) : FnC := fun X xs ns K => match xs, ns with
  | [(.ptr [1000] 0 0 0), (.v (CV.int .i64 x0))], [([1000], (.obj [(.osl [0, 1000] (some 6) 0 x1), (.v (CV.int .i64 x2))])), ([0, 1000], (.row false (some 6) x3))] => f11 k (fun u => K (f11_out u)) x0 x1 x2 x3
  | _, _ => none
theorem f11_ok (k : Nat) : AnsOk Try.prog 11 (f11_c k) := by
  intro X xs ns K x h
  unfold f11_c at h ⊢
  split at h
  · exact ans_main S (f11_Cok k) Try.func11 (ent_of Try.func11 (by kernel_rfl) rfl) rfl (fun X K => f11_ev k K _ _ _ _) h
  · cases h
def f18_plan : Nat → Option (List Nat × List Wk)
  | 0 => some ([0], [])
  | 1 => some ([0], [])
  | _ => none
def f18_C (k : Nat) : Fns := noC
theorem f18_Cok (k : Nat) : CsOk Try.prog (f18_C k) := noC_ok
def f18_cx (k : Nat) : Cx := mkCx (tabOf rows) (f18_C k) md f18_plan (f18_Cok k)
def f18_out (u : Int × Nat × Int × (List CV)) : Out := ⟨(.v (CV.int .i64 u.1)), [([1000], (.obj [(.osl [0, 1000] (some 6) 0 u.2.1), (.v (CV.int .i64 u.2.2.1))])), ([0, 1000], (.row false (some 6) u.2.2.2))]⟩
def f18_T {X : Type} (k : Nat) (K : Int × Nat × Int × (List CV) → Option X)  (x0 : Nat) (x1 : Int) (x2 : List CV) : Option X :=
K ((Nat.cast (x0) : Int), x0, x1, (List.take (0 + x0) x2))
/-- "(*outpost/exch.Table).Len" -/
def f18 {X : Type} (k : Nat) (K : Int × Nat × Int × (List CV) → Option X) (x0 : Nat) (x1 : Int) (x2 : List CV) : Option X := f18_T k K  x0 x1 x2
set_option maxRecDepth 100000 in
theorem f18_ev' {X : Type} (k : Nat) (K : Out → Option X) (x0 : Nat) (x1 : Int) (x2 : List CV) : evFn (f18_cx k) [] k Try.f18.ntmps Try.f18.results.toList (Try.f18.body.getD .skip) [(.ptr [1000] 0 0 0)] [([1000], (.obj [(.osl [0, 1000] (some 6) 0 x0), (.v (CV.int .i64 x1))])), ([0, 1000], (.row false (some 6) x2))] K = f18_T k (fun u => K (f18_out u)) x0 x1 x2 := by kernel_rfl
theorem f18_ev {X : Type} (k : Nat) (K : Out → Option X) (x0 : Nat) (x1 : Int) (x2 : List CV) : evFn (f18_cx k) [] k Try.f18.ntmps Try.f18.results.toList (Try.f18.body.getD .skip) [(.ptr [1000] 0 0 0)] [([1000], (.obj [(.osl [0, 1000] (some 6) 0 x0), (.v (CV.int .i64 x1))])), ([0, 1000], (.row false (some 6) x2))] K = f18 k (fun u => K (f18_out u)) x0 x1 x2 := (f18_ev' k K x0 x1 x2).trans rfl
def f18_c (k : Nat) : FnC := fun X xs ns K => match xs, ns with
  | [(.ptr [1000] 0 0 0)], [([1000], (.obj [(.osl [0, 1000] (some 6) 0 x0), (.v (CV.int .i64 x1))])), ([0, 1000], (.row false (some 6) x2))] => f18 k (fun u => K (f18_out u)) x0 x1 x2
  | _, _ => none
theorem f18_ok (k : Nat) : AnsOk Try.prog 18 (f18_c k) := by
  intro X xs ns K x h
  unfold f18_c at h ⊢
  split at h
  · exact ans_main S (f18_Cok k) Try.func18 (ent_of Try.func18 (by kernel_rfl) rfl) rfl (fun X K => f18_ev k K _ _ _) h
  · cases h
def f14_plan : Nat → Option (List Nat × List Wk)
  | 0 => some ([0, 1, 2], [])
  | 1 => some ([0, 1, 2], [])
  | 2 => some ([0, 7], [])
  | 3 => some ([], [])
  | 4 => some ([0, 7], [])
  | 5 => some ([], [])
  | _ => none
def f14_C (k : Nat) : Fns := (orC 30 (f30_c k) (orC 31 (f31_c k) noC))
theorem f14_Cok (k : Nat) : CsOk Try.prog (f14_C k) := (orC_ok (f30_ok k) (orC_ok (f31_ok k) noC_ok))
def f14_cx (k : Nat) : Cx := mkCx (tabOf rows) (f14_C k) md f14_plan (f14_Cok k)
def f14_out (u : Bool × Nat × Int × (List CV)) : Out := ⟨(.v (CV.bool u.1)), [([1000], (.obj [(.osl [0, 1000] (some 6) 0 u.2.1), (.v (CV.int .i64 u.2.2.1))])), ([0, 1000], (.row false (some 6) u.2.2.2))]⟩
def f14_T {X : Type} (k : Nat) (K : Bool × Nat × Int × (List CV) → Option X)  (x0 : Int) (x1 : Int) (x2 : Nat) (x3 : Int) (x4 : List CV) : Option X :=
f30 k (fun u1 =>
(bif (decide (u1.1 < 0)) then
K (false, u1.2.1, u1.2.2.1, (List.take (0 + u1.2.1) u1.2.2.2))
else
f31 k (fun u2 =>
K (true, u2.1, u1.2.2.1, (List.take (0 + u2.1) u2.2))) (u1.2.1) (u1.1) ((IntKind.wrap .i64 (u1.1 + 1))) (u1.2.2.2))) (x0) (x1) (x2) (x3) (x4)
/-- "(*outpost/exch.Table).Stop" -/
def f14 {X : Type} (k : Nat) (K : Bool × Nat × Int × (List CV) → Option X) (x0 : Int) (x1 : Int) (x2 : Nat) (x3 : Int) (x4 : List CV) : Option X := f14_T k K  x0 x1 x2 x3 x4
set_option maxRecDepth 100000 in
theorem f14_ev' {X : Type} (k : Nat) (K : Out → Option X) (x0 : Int) (x1 : Int) (x2 : Nat) (x3 : Int) (x4 : List CV) : evFn (f14_cx k) [] k Try.f14.ntmps Try.f14.results.toList (Try.f14.body.getD .skip) [(.ptr [1000] 0 0 0), (.v (CV.int .i64 x0)), (.v (CV.int .i64 x1))] [([1000], (.obj [(.osl [0, 1000] (some 6) 0 x2), (.v (CV.int .i64 x3))])), ([0, 1000], (.row false (some 6) x4))] K = f14_T k (fun u => K (f14_out u)) x0 x1 x2 x3 x4 := by kernel_rfl
theorem f14_ev {X : Type} (k : Nat) (K : Out → Option X) (x0 : Int) (x1 : Int) (x2 : Nat) (x3 : Int) (x4 : List CV) : evFn (f14_cx k) [] k Try.f14.ntmps Try.f14.results.toList (Try.f14.body.getD .skip) [(.ptr [1000] 0 0 0), (.v (CV.int .i64 x0)), (.v (CV.int .i64 x1))] [([1000], (.obj [(.osl [0, 1000] (some 6) 0 x2), (.v (CV.int .i64 x3))])), ([0, 1000], (.row false (some 6) x4))] K = f14 k (fun u => K (f14_out u)) x0 x1 x2 x3 x4 := (f14_ev' k K x0 x1 x2 x3 x4).trans rfl
def f14_c (k : Nat) : FnC := fun X xs ns K => match xs, ns with
  | [(.ptr [1000] 0 0 0), (.v (CV.int .i64 x0)), (.v (CV.int .i64 x1))], [([1000], (.obj [(.osl [0, 1000] (some 6) 0 x2), (.v (CV.int .i64 x3))])), ([0, 1000], (.row false (some 6) x4))] => f14 k (fun u => K (f14_out u)) x0 x1 x2 x3 x4
  | _, _ => none
theorem f14_ok (k : Nat) : AnsOk Try.prog 14 (f14_c k) := by
  intro X xs ns K x h
  unfold f14_c at h ⊢
  split at h
  · exact ans_main S (f14_Cok k) Try.func14 (ent_of Try.func14 (by kernel_rfl) rfl) rfl (fun X K => f14_ev k K _ _ _ _ _) h
  · cases h
def f7_plan : Nat → Option (List Nat × List Wk)
  | 0 => some ([], [])
  | 1 => some ([], [])
  | 2 => some ([1], [])
  | 3 => some ([1, 2], [])
  | 4 => some ([1, 2, 3], [])
  | 5 => some ([1, 2, 3, 4, 5], [])
  | 6 => some ([1, 2, 3, 4, 5, 6], [])
  | 7 => some ([1, 2, 3, 4, 5, 6, 7], [])
  | 8 => some ([1, 2, 3, 4, 5, 6, 7, 8], [])
  | 9 => some ([1, 2, 3, 4, 5, 6, 7, 8, 9], [])
  | _ => none
def f7_C (k : Nat) : Fns := (orC 8 (f8_c k) (orC 10 (f10_c k) (orC 11 (f11_c k) (orC 13 (f13_c k) (orC 14 (f14_c k) (orC 18 (f18_c k) (orC 19 (f19_c k) noC)))))))
theorem f7_Cok (k : Nat) : CsOk Try.prog (f7_C k) := (orC_ok (f8_ok k) (orC_ok (f10_ok k) (orC_ok (f11_ok k) (orC_ok (f13_ok k) (orC_ok (f14_ok k) (orC_ok (f18_ok k) (orC_ok (f19_ok k) noC_ok)))))))
def f7_cx (k : Nat) : Cx := mkCx (tabOf rows) (f7_C k) md f7_plan (f7_Cok k)
def f7_out (u : Bool) : Out := ⟨(.v (CV.bool u)), []⟩
def f7_T {X : Type} (k : Nat) (K : Bool → Option X)   : Option X :=
f8 k (fun u1 =>
f10 k (fun u2 =>
f10 k (fun u3 =>
f19 k (fun u4 =>
f11 k (fun u5 =>
f11 k (fun u6 =>
f11 k (fun u7 =>
f11 k (fun u8 =>
(bif (u2.1 == 0) then
(bif (u3.1 == 5) then
(bif u4.2.1 then
(bif (u4.1 == 20) then
(bif ((Nat.cast (u5.1) : Int) == 0) then
(bif ((Nat.cast (u6.1) : Int) == 1) then
grd (decide (0 < (Nat.cast (u6.1) : Int))) <|
Option.bind (u6.2.2.2.2)[0]? fun e9 =>
Option.bind (CV.cell e9 2) fun c10 =>
grd (CV.isL none c10) <|
grd (shEq none none && List.all (CV.toL c10) (CV.isI .u8)) <|
(bif ((bytesOf (CV.toL c10)).toList == (⟨#[97]⟩ : ByteArray).toList) then
grd (decide (0 < (Nat.cast (u6.1) : Int))) <|
Option.bind (u6.2.2.2.2)[0]? fun e11 =>
Option.bind (CV.cell e11 3) fun c12 =>
grd (CV.isB c12) <|
(bif (!(CV.toB c12)) then
(bif ((Nat.cast (u7.1) : Int) == 3) then
(bif ((Nat.cast (u8.1) : Int) == 1) then
grd (decide (0 < (Nat.cast (u8.1) : Int))) <|
Option.bind (u8.2.2.2.2)[0]? fun e13 =>
Option.bind (CV.cell e13 3) fun c14 =>
grd (CV.isB c14) <|
(bif (CV.toB c14) then
f18 k (fun u15 =>
(bif (u15.1 == 0) then
f13 k (fun u16 =>
(bif (!u16.1) then
f14 k (fun u17 =>
K ((bif (bif (!u17.1) then true else false) then true else false))) (1) (7) (u16.2.1) (u16.2.2.1) (u16.2.2.2)
else
K (false))) (1) (7) (u15.2.1) (u15.2.2.1) (u15.2.2.2)
else
K (false))) (u8.2.1) (u8.2.2.1) (u8.2.2.2.1)
else
K (false))
else
K (false))
else
K (false))
else
K (false))
else
K (false))
else
K (false))
else
K (false))
else
K (false))
else
K (false))
else
K (false))
else
K (false))) (620) (u7.2.1) (u7.2.2.1) (u7.2.2.2.1)) (300) (u6.2.1) (u6.2.2.1) (u6.2.2.2.1)) (20) (u5.2.1) (u5.2.2.1) (u5.2.2.2.1)) (19) (u4.2.2.1) (u4.2.2.2.1) (u4.2.2.2.2)) (u3.2.1) (u3.2.2.1) (u3.2.2.2)) (1) (7) ([]) (0) (0) (u2.2.1) (u2.2.2.1) (u2.2.2.2)) (1) (7) ((List.take 1 (List.drop 0 [(CV.int .u8 97)]))) (0) (0) (0) (0) (u1)) 
/-- "outpost/outpostlaw12.alive" -/
def f7 {X : Type} (k : Nat) (K : Bool → Option X)  : Option X := f7_T k K  
set_option maxRecDepth 100000 in
theorem f7_ev' {X : Type} (k : Nat) (K : Out → Option X)  : evFn (f7_cx k) [] k Try.f7.ntmps Try.f7.results.toList (Try.f7.body.getD .skip) [] [] K = f7_T k (fun u => K (f7_out u))  := by kernel_rfl
theorem f7_ev {X : Type} (k : Nat) (K : Out → Option X)  : evFn (f7_cx k) [] k Try.f7.ntmps Try.f7.results.toList (Try.f7.body.getD .skip) [] [] K = f7 k (fun u => K (f7_out u))  := (f7_ev' k K ).trans rfl
def f7_c (k : Nat) : FnC := fun X xs ns K => match xs, ns with
  | [], [] => f7 k (fun u => K (f7_out u)) 
  | _, _ => none
theorem f7_ok (k : Nat) : AnsOk Try.prog 7 (f7_c k) := by
  intro X xs ns K x h
  unfold f7_c at h ⊢
  split at h
  · exact ans_main S (f7_Cok k) Try.func7 (ent_of Try.func7 (by kernel_rfl) rfl) rfl (fun X K => f7_ev k K ) h
  · cases h
def f9_plan : Nat → Option (List Nat × List Wk)
  | 0 => some ([0], [])
  | 1 => some ([0], [])
  | 2 => some ([0, 3], [])
  | 3 => some ([0, 3, 4], [])
  | 4 => some ([0, 3, 4], [])
  | 5 => some ([0, 3, 4], [])
  | 6 => some ([3], [])
  | _ => none
def f9_C (k : Nat) : Fns := noC
theorem f9_Cok (k : Nat) : CsOk Try.prog (f9_C k) := noC_ok
def f9_cx (k : Nat) : Cx := mkCx (tabOf rows) (f9_C k) md f9_plan (f9_Cok k)
def f9_out (u : Nat × (List CV)) : Out := ⟨(.osl [2000] none 0 u.1), [([2000], (.row false none u.2))]⟩
def f9_S1 (v : (List CV) × Nat × Int × (List CV)) : St := ⟨[(.sl false none v.1), .undef, .undef, (.osl [3] none 0 v.2.1), (.v (CV.int .i64 v.2.2.1)), .undef, .undef, .undef, .undef, .undef, .undef, .undef, .undef, .undef, .undef, .undef, .undef, .undef, .undef, .undef], [([3], (.row false none v.2.2.2))]⟩
def f9_T1 {X : Type} (k : Nat) (K : Nat × (List CV) → Option X)   (rec1 : (List CV) × Nat × Int × (List CV) → Option X) (v5_0 : (List CV) × Nat × Int × (List CV)) : Option X :=
(bif (decide (v5_0.2.2.1 < (Nat.cast ((List.length v5_0.1)) : Int))) then
grd (decide (0 ≤ v5_0.2.2.1)) <|
Option.bind (v5_0.1)[(Int.toNat v5_0.2.2.1)]? fun e5 =>
grd (CV.isI .u8 e5) <|
grd (decide ((v5_0.2.1 + (List.length (List.take 1 (List.drop 0 [(CV.int .u8 (CV.toI e5))])))) * 1 ≤ 140737488355328)) <|
rec1 (v5_0.1, (v5_0.2.1 + (List.length (List.take 1 (List.drop 0 [(CV.int .u8 (CV.toI e5))])))), (IntKind.wrap .i64 (v5_0.2.2.1 + 1)), ((List.take v5_0.2.1 v5_0.2.2.2) ++ (List.take 1 (List.drop 0 [(CV.int .u8 (CV.toI e5))]))))
else
K (v5_0.2.1, (List.take (0 + v5_0.2.1) v5_0.2.2.2)))
def f9_L1 {X : Type} (k : Nat) (K : Nat × (List CV) → Option X)  (rec1 : (List CV) × Nat × Int × (List CV) → Option X) (v : (List CV) × Nat × Int × (List CV)) : Option X := f9_T1 k K   rec1 v
set_option maxRecDepth 100000 in
theorem f9_L1_ev {X : Type} (k : Nat) (K : Out → Option X)  (r1 : St → Option X) (v : (List CV) × Nat × Int × (List CV)) : loopB (f9_cx k) k [.r, .r, .l, .r, .b] (Try.f9.body.getD .skip) (retK (f9_cx k) [] Try.f9.results.toList K) [] r1 (f9_S1 v) = f9_T1 k (fun u => K (f9_out u))   (fun v => r1 (f9_S1 v)) v := by kernel_rfl
theorem f9_L1_it {X : Type} (k : Nat) (K : Out → Option X)  : (fun v => iter (loopB (f9_cx k) k [.r, .r, .l, .r, .b] (Try.f9.body.getD .skip) (retK (f9_cx k) [] Try.f9.results.toList K) []) k (f9_S1 v)) = iterV (f9_L1 k (fun u => K (f9_out u)) ) k :=
  iter_map (fun r1 v => (f9_L1_ev k K  r1 v).trans rfl) k
def f9_T {X : Type} (k : Nat) (K : Nat × (List CV) → Option X) (loop1 : (List CV) × Nat × Int × (List CV) → Option X) (x0 : List CV) : Option X :=
loop1 (x0, 0, 0, [])
/-- "outpost/outpostref01.Copy" -/
def f9 {X : Type} (k : Nat) (K : Nat × (List CV) → Option X) (x0 : List CV) : Option X := f9_T k K (iterV (f9_L1 k K) k) x0
set_option maxRecDepth 100000 in
theorem f9_ev' {X : Type} (k : Nat) (K : Out → Option X) (x0 : List CV) : evFn (f9_cx k) [] k Try.f9.ntmps Try.f9.results.toList (Try.f9.body.getD .skip) [(.sl false none x0)] [] K = f9_T k (fun u => K (f9_out u)) (fun v => iter (loopB (f9_cx k) k [.r, .r, .l, .r, .b] (Try.f9.body.getD .skip) (retK (f9_cx k) [] Try.f9.results.toList K) []) k (f9_S1 v)) x0 := by kernel_rfl
theorem f9_ev {X : Type} (k : Nat) (K : Out → Option X) (x0 : List CV) : evFn (f9_cx k) [] k Try.f9.ntmps Try.f9.results.toList (Try.f9.body.getD .skip) [(.sl false none x0)] [] K = f9 k (fun u => K (f9_out u)) x0 := (f9_ev' k K x0).trans (by rw [f9_L1_it k K]; rfl)
def f9_c (k : Nat) : FnC := fun X xs ns K => match xs, ns with
  | [(.sl false none x0)], [] => f9 k (fun u => K (f9_out u)) x0
  | _, _ => none
theorem f9_ok (k : Nat) : AnsOk Try.prog 9 (f9_c k) := by
  intro X xs ns K x h
  unfold f9_c at h ⊢
  split at h
  · exact ans_main S (f9_Cok k) Try.func9 (ent_of Try.func9 (by kernel_rfl) rfl) rfl (fun X K => f9_ev k K _) h
  · cases h
def f12_plan : Nat → Option (List Nat × List Wk)
  | 0 => some ([0, 1], [])
  | 1 => some ([0, 1], [])
  | 2 => some ([], [])
  | 3 => some ([0, 1], [])
  | 4 => some ([0, 1, 5], [])
  | 5 => some ([0, 1, 5], [])
  | 6 => some ([0, 1, 5], [])
  | 7 => some ([], [])
  | 8 => some ([], [])
  | _ => none
def f12_C (k : Nat) : Fns := noC
theorem f12_Cok (k : Nat) : CsOk Try.prog (f12_C k) := noC_ok
def f12_cx (k : Nat) : Cx := mkCx (tabOf rows) (f12_C k) md f12_plan (f12_Cok k)
def f12_out (u : Bool) : Out := ⟨(.v (CV.bool u)), []⟩
def f12_S1 (v : (List CV) × (List CV) × Int) : St := ⟨[(.sl false none v.1), (.sl false none v.2.1), .undef, .undef, .undef, (.v (CV.int .i64 v.2.2)), .undef, .undef, .undef, .undef, .undef, .undef, .undef, .undef, .undef, .undef, .undef, .undef, .undef, .undef, .undef, .undef, .undef, .undef, .undef, .undef], []⟩
def f12_T1 {X : Type} (k : Nat) (K : Bool → Option X)   (rec1 : (List CV) × (List CV) × Int → Option X) (v5_0 : (List CV) × (List CV) × Int) : Option X :=
(bif (decide (v5_0.2.2 < (Nat.cast ((List.length v5_0.1)) : Int))) then
grd (decide (0 ≤ v5_0.2.2)) <|
Option.bind (v5_0.1)[(Int.toNat v5_0.2.2)]? fun e8 =>
grd (CV.isI .u8 e8) <|
grd (decide (0 ≤ v5_0.2.2)) <|
Option.bind (v5_0.2.1)[(Int.toNat v5_0.2.2)]? fun e9 =>
grd (CV.isI .u8 e9) <|
(bif ((CV.toI e8) != (CV.toI e9)) then
K (false)
else
rec1 (v5_0.1, v5_0.2.1, (IntKind.wrap .i64 (v5_0.2.2 + 1))))
else
K (true))
def f12_L1 {X : Type} (k : Nat) (K : Bool → Option X)  (rec1 : (List CV) × (List CV) × Int → Option X) (v : (List CV) × (List CV) × Int) : Option X := f12_T1 k K   rec1 v
set_option maxRecDepth 100000 in
theorem f12_L1_ev {X : Type} (k : Nat) (K : Out → Option X)  (r1 : St → Option X) (v : (List CV) × (List CV) × Int) : loopB (f12_cx k) k [.r, .r, .l, .r, .b] (Try.f12.body.getD .skip) (retK (f12_cx k) [] Try.f12.results.toList K) [] r1 (f12_S1 v) = f12_T1 k (fun u => K (f12_out u))   (fun v => r1 (f12_S1 v)) v := by kernel_rfl
theorem f12_L1_it {X : Type} (k : Nat) (K : Out → Option X)  : (fun v => iter (loopB (f12_cx k) k [.r, .r, .l, .r, .b] (Try.f12.body.getD .skip) (retK (f12_cx k) [] Try.f12.results.toList K) []) k (f12_S1 v)) = iterV (f12_L1 k (fun u => K (f12_out u)) ) k :=
  iter_map (fun r1 v => (f12_L1_ev k K  r1 v).trans rfl) k
def f12_T {X : Type} (k : Nat) (K : Bool → Option X) (loop1 : (List CV) × (List CV) × Int → Option X) (x0 : List CV) (x1 : List CV) : Option X :=
(bif ((Nat.cast ((List.length x0)) : Int) != (Nat.cast ((List.length x1)) : Int)) then
K (false)
else
loop1 (x0, x1, 0))
/-- "outpost/outpostref01.Same" -/
def f12 {X : Type} (k : Nat) (K : Bool → Option X) (x0 : List CV) (x1 : List CV) : Option X := f12_T k K (iterV (f12_L1 k K) k) x0 x1
set_option maxRecDepth 100000 in
theorem f12_ev' {X : Type} (k : Nat) (K : Out → Option X) (x0 : List CV) (x1 : List CV) : evFn (f12_cx k) [] k Try.f12.ntmps Try.f12.results.toList (Try.f12.body.getD .skip) [(.sl false none x0), (.sl false none x1)] [] K = f12_T k (fun u => K (f12_out u)) (fun v => iter (loopB (f12_cx k) k [.r, .r, .l, .r, .b] (Try.f12.body.getD .skip) (retK (f12_cx k) [] Try.f12.results.toList K) []) k (f12_S1 v)) x0 x1 := by kernel_rfl
theorem f12_ev {X : Type} (k : Nat) (K : Out → Option X) (x0 : List CV) (x1 : List CV) : evFn (f12_cx k) [] k Try.f12.ntmps Try.f12.results.toList (Try.f12.body.getD .skip) [(.sl false none x0), (.sl false none x1)] [] K = f12 k (fun u => K (f12_out u)) x0 x1 := (f12_ev' k K x0 x1).trans (by rw [f12_L1_it k K]; rfl)
def f12_c (k : Nat) : FnC := fun X xs ns K => match xs, ns with
  | [(.sl false none x0), (.sl false none x1)], [] => f12 k (fun u => K (f12_out u)) x0 x1
  | _, _ => none
theorem f12_ok (k : Nat) : AnsOk Try.prog 12 (f12_c k) := by
  intro X xs ns K x h
  unfold f12_c at h ⊢
  split at h
  · exact ans_main S (f12_Cok k) Try.func12 (ent_of Try.func12 (by kernel_rfl) rfl) rfl (fun X K => f12_ev k K _ _) h
  · cases h
def f3_plan : Nat → Option (List Nat × List Wk)
  | 0 => some ([0, 1, 2, 3, 4], [])
  | 1 => some ([0, 1, 2, 3, 4], [])
  | 2 => some ([], [])
  | 3 => some ([0, 1, 2, 3, 4], [])
  | 4 => some ([], [])
  | 5 => some ([0, 1, 2, 3, 4], [])
  | 6 => some ([0, 1, 2, 3, 4, 11], [])
  | 7 => some ([0, 1, 2, 3, 4, 11, 12], [])
  | 8 => some ([], [])
  | 9 => some ([0, 1, 2, 3, 4, 11, 12], [])
  | 10 => some ([0, 1, 2, 3, 4, 11, 12, 53, 54], [])
  | 11 => some ([0, 1, 2, 3, 4, 11, 12, 53, 54], [])
  | 12 => some ([0, 1, 2, 3, 4, 11, 12, 13, 53, 54], [])
  | 13 => some ([0, 1, 2, 3, 4, 11, 12, 53, 54], [])
  | 14 => some ([0, 1, 2, 3, 4, 11], [])
  | 15 => some ([0, 1, 3, 4, 11, 14], [])
  | 16 => some ([0, 1, 3, 4, 11, 14, 15], [])
  | 17 => some ([0, 1, 3, 4, 11, 14, 15, 16], [])
  | 18 => some ([0, 1, 3, 4, 11, 14, 15, 16, 17], [])
  | 19 => some ([0, 1, 4, 11, 14, 15, 16, 17, 69, 70, 71], [])
  | 20 => some ([0, 1, 4, 11, 14, 15, 16, 17, 69, 70, 71], [])
  | 21 => some ([0, 1, 4, 11, 14, 15, 16, 17, 18, 19, 69, 70, 71], [])
  | 22 => some ([0, 1, 4, 11, 14, 15, 16, 17, 18, 69, 70, 71], [])
  | 23 => some ([0, 1, 4, 11, 14, 15, 16, 17, 18, 69, 70, 71, 82, 83, 84], [])
  | 24 => some ([0, 1, 4, 11, 14, 15, 16, 17, 18, 69, 70, 71, 82, 83, 84], [])
  | 25 => some ([0, 1, 4, 11, 14, 15, 16, 17, 18, 21, 69, 70, 71, 82, 83, 84], [])
  | 26 => some ([0, 1, 4, 11, 14, 15, 16, 17, 18, 21, 69, 70, 71, 82, 83, 84], [])
  | 27 => some ([], [])
  | 28 => some ([0, 1, 4, 11, 14, 15, 16, 17, 18, 69, 70, 71, 82, 83, 84], [])
  | 29 => some ([0, 1, 4, 11, 14, 15, 16, 17, 18, 69, 70, 71], [])
  | 30 => some ([0, 1, 4, 11, 14, 15, 16, 17, 18, 22, 69, 70, 71], [])
  | 31 => some ([0, 1, 4, 11, 14, 15, 16, 17, 18, 22, 23, 24, 69, 70, 71], [])
  | 32 => some ([0, 1, 4, 11, 14, 15, 16, 17, 18, 22, 23, 24, 69, 70, 71], [])
  | 33 => some ([0, 1, 4, 11, 14, 15, 16, 17, 18, 22, 23, 24, 69, 70, 71], [])
  | 34 => some ([0, 1, 4, 11, 14, 15, 16, 17, 18, 22, 23, 24, 69, 70, 71], [])
  | 35 => some ([0, 1, 4, 11, 14, 15, 16, 17, 18, 22, 69, 70, 71], [])
  | 36 => some ([], [])
  | 37 => some ([0, 1, 4, 11, 14, 15, 16, 17, 18, 69, 70, 71], [])
  | 38 => some ([0, 1, 4, 11, 14, 15, 16, 69, 70, 71], [])
  | 39 => some ([], [])
  | 40 => some ([0, 1, 4, 11, 14, 15, 16, 69, 70, 71], [])
  | 41 => some ([0, 1, 4, 11, 14, 15, 16, 17, 69, 70, 71], [])
  | 42 => some ([], [])
  | _ => none
def f3_C (k : Nat) : Fns := (orC 7 (f7_c k) (orC 8 (f8_c k) (orC 9 (f9_c k) (orC 10 (f10_c k) (orC 11 (f11_c k) (orC 12 (f12_c k) (orC 13 (f13_c k) (orC 14 (f14_c k) noC))))))))
theorem f3_Cok (k : Nat) : CsOk Try.prog (f3_C k) := (orC_ok (f7_ok k) (orC_ok (f8_ok k) (orC_ok (f9_ok k) (orC_ok (f10_ok k) (orC_ok (f11_ok k) (orC_ok (f12_ok k) (orC_ok (f13_ok k) (orC_ok (f14_ok k) noC_ok))))))))
def f3_cx (k : Nat) : Cx := mkCx (tabOf rows) (f3_C k) md f3_plan (f3_Cok k)
def f3_out (u : Bool) : Out := ⟨(.v (CV.bool u)), []⟩
def f3_S1 (v : (List CV) × Int × Int × (List CV) × Int × Nat × Int × Int × (List CV) × Nat × Int × (List CV)) : St := ⟨[(.sl true none v.1), (.v (CV.int .i64 v.2.1)), (.v (CV.int .i64 v.2.2.1)), (.sl true none v.2.2.2.1), (.v (CV.int .i64 v.2.2.2.2.1)), .undef, .undef, .undef, .undef, .undef, .undef, (.ptr [43] 0 0 0), (.osl [12] none 0 v.2.2.2.2.2.1), .undef, .undef, .undef, .undef, .undef, .undef, .undef, .undef, .undef, .undef, .undef, .undef, .undef, .undef, .undef, .undef, .undef, .undef, .undef, .undef, .undef, .undef, .undef, .undef, .undef, .undef, .undef, .undef, .undef, .undef, .undef, .undef, .undef, .undef, .undef, .undef, .undef, .undef, .undef, .undef, (.v (CV.int .i64 v.2.2.2.2.2.2.1)), (.v (CV.int .i64 v.2.2.2.2.2.2.2.1)), .undef, .undef, .undef, .undef, .undef, .undef, .undef, .undef, .undef, .undef, .undef, .undef, .undef, .undef, .undef, .undef, .undef, .undef, .undef, .undef, .undef, .undef, .undef, .undef, .undef, .undef, .undef, .undef, .undef, .undef, .undef, .undef, .undef, .undef, .undef, .undef, .undef, .undef, .undef, .undef, .undef, .undef, .undef, .undef, .undef, .undef, .undef, .undef, .undef, .undef, .undef, .undef, .undef, .undef, .undef, .undef, .undef, .undef, .undef, .undef, .undef, .undef, .undef, .undef, .undef, .undef, .undef, .undef, .undef, .undef, .undef, .undef, .undef, .undef, .undef, .undef, .undef, .undef, .undef, .undef, .undef, .undef, .undef, .undef, .undef, .undef, .undef, .undef, .undef, .undef, .undef, .undef, .undef, .undef, .undef, .undef, .undef, .undef, .undef, .undef, .undef, .undef, .undef, .undef, .undef, .undef, .undef, .undef, .undef, .undef, .undef], [([12], (.row false none v.2.2.2.2.2.2.2.2.1)), ([43], (.obj [(.osl [0, 43] (some 6) 0 v.2.2.2.2.2.2.2.2.2.1), (.v (CV.int .i64 v.2.2.2.2.2.2.2.2.2.2.1))])), ([0, 43], (.row false (some 6) v.2.2.2.2.2.2.2.2.2.2.2))]⟩
def f3_S2 (v : (List CV) × Int × Int × Int × Int × Int × Bool × (List CV) × Int × Int × Nat × Int × (List CV)) : St := ⟨[(.sl true none v.1), (.v (CV.int .i64 v.2.1)), .undef, .undef, (.v (CV.int .i64 v.2.2.1)), .undef, .undef, .undef, .undef, .undef, .undef, (.ptr [43] 0 0 0), .undef, .undef, (.v (CV.int .i64 v.2.2.2.1)), (.v (CV.int .i64 v.2.2.2.2.1)), (.v (CV.int .i64 v.2.2.2.2.2.1)), (.v (CV.bool v.2.2.2.2.2.2.1)), .undef, .undef, .undef, .undef, .undef, .undef, .undef, .undef, .undef, .undef, .undef, .undef, .undef, .undef, .undef, .undef, .undef, .undef, .undef, .undef, .undef, .undef, .undef, .undef, .undef, .undef, .undef, .undef, .undef, .undef, .undef, .undef, .undef, .undef, .undef, .undef, .undef, .undef, .undef, .undef, .undef, .undef, .undef, .undef, .undef, .undef, .undef, .undef, .undef, .undef, .undef, (.sl true none v.2.2.2.2.2.2.2.1), (.v (CV.int .i64 v.2.2.2.2.2.2.2.2.1)), (.v (CV.int .i64 v.2.2.2.2.2.2.2.2.2.1)), .undef, .undef, .undef, .undef, .undef, .undef, .undef, .undef, .undef, .undef, .undef, .undef, .undef, .undef, .undef, .undef, .undef, .undef, .undef, .undef, .undef, .undef, .undef, .undef, .undef, .undef, .undef, .undef, .undef, .undef, .undef, .undef, .undef, .undef, .undef, .undef, .undef, .undef, .undef, .undef, .undef, .undef, .undef, .undef, .undef, .undef, .undef, .undef, .undef, .undef, .undef, .undef, .undef, .undef, .undef, .undef, .undef, .undef, .undef, .undef, .undef, .undef, .undef, .undef, .undef, .undef, .undef, .undef, .undef, .undef, .undef, .undef, .undef, .undef, .undef, .undef, .undef, .undef, .undef, .undef, .undef, .undef, .undef, .undef, .undef, .undef, .undef, .undef, .undef, .undef, .undef, .undef, .undef, .undef], [([43], (.obj [(.osl [0, 43] (some 6) 0 v.2.2.2.2.2.2.2.2.2.2.1), (.v (CV.int .i64 v.2.2.2.2.2.2.2.2.2.2.2.1))])), ([0, 43], (.row false (some 6) v.2.2.2.2.2.2.2.2.2.2.2.2))]⟩
def f3_S3 (v : (List CV) × Int × Int × Int × Int × Int × Bool × Int × (List CV) × Int × Int × Nat × Int × Int × Nat × Int × (List CV) × (List CV)) : St := ⟨[(.sl true none v.1), (.v (CV.int .i64 v.2.1)), .undef, .undef, (.v (CV.int .i64 v.2.2.1)), .undef, .undef, .undef, .undef, .undef, .undef, (.ptr [43] 0 0 0), .undef, .undef, (.v (CV.int .i64 v.2.2.2.1)), (.v (CV.int .i64 v.2.2.2.2.1)), (.v (CV.int .i64 v.2.2.2.2.2.1)), (.v (CV.bool v.2.2.2.2.2.2.1)), (.v (CV.int .i64 v.2.2.2.2.2.2.2.1)), .undef, .undef, .undef, .undef, .undef, .undef, .undef, .undef, .undef, .undef, .undef, .undef, .undef, .undef, .undef, .undef, .undef, .undef, .undef, .undef, .undef, .undef, .undef, .undef, .undef, .undef, .undef, .undef, .undef, .undef, .undef, .undef, .undef, .undef, .undef, .undef, .undef, .undef, .undef, .undef, .undef, .undef, .undef, .undef, .undef, .undef, .undef, .undef, .undef, .undef, (.sl true none v.2.2.2.2.2.2.2.2.1), (.v (CV.int .i64 v.2.2.2.2.2.2.2.2.2.1)), (.v (CV.int .i64 v.2.2.2.2.2.2.2.2.2.2.1)), .undef, .undef, .undef, .undef, .undef, .undef, .undef, .undef, .undef, .undef, (.osl [82] (some 4) 0 v.2.2.2.2.2.2.2.2.2.2.2.1), (.v (CV.int .i64 v.2.2.2.2.2.2.2.2.2.2.2.2.1)), (.v (CV.int .i64 v.2.2.2.2.2.2.2.2.2.2.2.2.2.1)), .undef, .undef, .undef, .undef, .undef, .undef, .undef, .undef, .undef, .undef, .undef, .undef, .undef, .undef, .undef, .undef, .undef, .undef, .undef, .undef, .undef, .undef, .undef, .undef, .undef, .undef, .undef, .undef, .undef, .undef, .undef, .undef, .undef, .undef, .undef, .undef, .undef, .undef, .undef, .undef, .undef, .undef, .undef, .undef, .undef, .undef, .undef, .undef, .undef, .undef, .undef, .undef, .undef, .undef, .undef, .undef, .undef, .undef, .undef, .undef, .undef, .undef, .undef, .undef, .undef, .undef, .undef, .undef, .undef, .undef, .undef, .undef, .undef, .undef, .undef, .undef, .undef, .undef, .undef, .undef, .undef], [([43], (.obj [(.osl [0, 43] (some 6) 0 v.2.2.2.2.2.2.2.2.2.2.2.2.2.2.1), (.v (CV.int .i64 v.2.2.2.2.2.2.2.2.2.2.2.2.2.2.2.1))])), ([0, 43], (.row false (some 6) v.2.2.2.2.2.2.2.2.2.2.2.2.2.2.2.2.1)), ([82], (.row false (some 4) v.2.2.2.2.2.2.2.2.2.2.2.2.2.2.2.2.2))]⟩
def f3_S4 (v : (List CV) × Int × Int × Int × Int × Int × Bool × Int × Int × Int × Int × (List CV) × Int × Int × Nat × Int × (List CV)) : St := ⟨[(.sl true none v.1), (.v (CV.int .i64 v.2.1)), .undef, .undef, (.v (CV.int .i64 v.2.2.1)), .undef, .undef, .undef, .undef, .undef, .undef, (.ptr [43] 0 0 0), .undef, .undef, (.v (CV.int .i64 v.2.2.2.1)), (.v (CV.int .i64 v.2.2.2.2.1)), (.v (CV.int .i64 v.2.2.2.2.2.1)), (.v (CV.bool v.2.2.2.2.2.2.1)), (.v (CV.int .i64 v.2.2.2.2.2.2.2.1)), .undef, .undef, .undef, (.v (CV.int .i64 v.2.2.2.2.2.2.2.2.1)), (.v (CV.int .i64 v.2.2.2.2.2.2.2.2.2.1)), (.v (CV.int .i64 v.2.2.2.2.2.2.2.2.2.2.1)), .undef, .undef, .undef, .undef, .undef, .undef, .undef, .undef, .undef, .undef, .undef, .undef, .undef, .undef, .undef, .undef, .undef, .undef, .undef, .undef, .undef, .undef, .undef, .undef, .undef, .undef, .undef, .undef, .undef, .undef, .undef, .undef, .undef, .undef, .undef, .undef, .undef, .undef, .undef, .undef, .undef, .undef, .undef, .undef, (.sl true none v.2.2.2.2.2.2.2.2.2.2.2.1), (.v (CV.int .i64 v.2.2.2.2.2.2.2.2.2.2.2.2.1)), (.v (CV.int .i64 v.2.2.2.2.2.2.2.2.2.2.2.2.2.1)), .undef, .undef, .undef, .undef, .undef, .undef, .undef, .undef, .undef, .undef, .undef, .undef, .undef, .undef, .undef, .undef, .undef, .undef, .undef, .undef, .undef, .undef, .undef, .undef, .undef, .undef, .undef, .undef, .undef, .undef, .undef, .undef, .undef, .undef, .undef, .undef, .undef, .undef, .undef, .undef, .undef, .undef, .undef, .undef, .undef, .undef, .undef, .undef, .undef, .undef, .undef, .undef, .undef, .undef, .undef, .undef, .undef, .undef, .undef, .undef, .undef, .undef, .undef, .undef, .undef, .undef, .undef, .undef, .undef, .undef, .undef, .undef, .undef, .undef, .undef, .undef, .undef, .undef, .undef, .undef, .undef, .undef, .undef, .undef, .undef, .undef, .undef, .undef, .undef, .undef, .undef, .undef, .undef, .undef], [([43], (.obj [(.osl [0, 43] (some 6) 0 v.2.2.2.2.2.2.2.2.2.2.2.2.2.2.1), (.v (CV.int .i64 v.2.2.2.2.2.2.2.2.2.2.2.2.2.2.2.1))])), ([0, 43], (.row false (some 6) v.2.2.2.2.2.2.2.2.2.2.2.2.2.2.2.2))]⟩
def f3_J1 {X : Type} (k : Nat) (K : Bool → Option X) (rec2 : (List CV) × Int × Int × Int × Int × Int × Bool × (List CV) × Int × Int × Nat × Int × (List CV) → Option X) (v26_47 : (List CV) × Int × Int × Int × Int × Int × Bool × Int × Int × Int × Int × (List CV) × Int × Int × Nat × Int × (List CV)) (v51 : Nat × Int × (List CV)) : Option X :=
(bif (v26_47.2.2.2.2.2.2.2.1 == (bop .and .i64 v26_47.2.2.1 63)) then
(bif (decide (v26_47.2.2.2.2.2.1 < 5)) then
f14 k (fun u53 =>
(bif (!u53.1) then
K (false)
else
rec2 (v26_47.1, v26_47.2.1, v26_47.2.2.1, v26_47.2.2.2.1, v26_47.2.2.2.2.1, v26_47.2.2.2.2.2.1, true, v26_47.2.2.2.2.2.2.2.2.2.2.2.1, v26_47.2.2.2.2.2.2.2.2.2.2.2.2.1, (IntKind.wrap .i64 (v26_47.2.2.2.2.2.2.2.2.2.2.2.2.2.1 + 1)), u53.2.1, u53.2.2.1, u53.2.2.2))) (3) (9) (v51.1) (v51.2.1) (v51.2.2)
else
rec2 (v26_47.1, v26_47.2.1, v26_47.2.2.1, v26_47.2.2.2.1, v26_47.2.2.2.2.1, v26_47.2.2.2.2.2.1, v26_47.2.2.2.2.2.2.1, v26_47.2.2.2.2.2.2.2.2.2.2.2.1, v26_47.2.2.2.2.2.2.2.2.2.2.2.2.1, (IntKind.wrap .i64 (v26_47.2.2.2.2.2.2.2.2.2.2.2.2.2.1 + 1)), v51.1, v51.2.1, v51.2.2))
else
rec2 (v26_47.1, v26_47.2.1, v26_47.2.2.1, v26_47.2.2.2.1, v26_47.2.2.2.2.1, v26_47.2.2.2.2.2.1, v26_47.2.2.2.2.2.2.1, v26_47.2.2.2.2.2.2.2.2.2.2.2.1, v26_47.2.2.2.2.2.2.2.2.2.2.2.2.1, (IntKind.wrap .i64 (v26_47.2.2.2.2.2.2.2.2.2.2.2.2.2.1 + 1)), v51.1, v51.2.1, v51.2.2))
def f3_J2 {X : Type} (k : Nat) (K : Bool → Option X) (rec2 : (List CV) × Int × Int × Int × Int × Int × Bool × (List CV) × Int × Int × Nat × Int × (List CV) → Option X) (v26_47 : (List CV) × Int × Int × Int × Int × Int × Bool × Int × Int × Int × Int × (List CV) × Int × Int × Nat × Int × (List CV)) (v58 : Nat × Int × (List CV)) : Option X :=
(bif (v26_47.2.2.2.2.2.2.2.1 == (bop .and .i64 v26_47.2.2.1 63)) then
(bif (decide (v26_47.2.2.2.2.2.1 < 5)) then
f14 k (fun u60 =>
(bif (!u60.1) then
K (false)
else
rec2 (v26_47.1, v26_47.2.1, v26_47.2.2.1, v26_47.2.2.2.1, v26_47.2.2.2.2.1, v26_47.2.2.2.2.2.1, true, v26_47.2.2.2.2.2.2.2.2.2.2.2.1, v26_47.2.2.2.2.2.2.2.2.2.2.2.2.1, (IntKind.wrap .i64 (v26_47.2.2.2.2.2.2.2.2.2.2.2.2.2.1 + 1)), u60.2.1, u60.2.2.1, u60.2.2.2))) (3) (9) (v58.1) (v58.2.1) (v58.2.2)
else
rec2 (v26_47.1, v26_47.2.1, v26_47.2.2.1, v26_47.2.2.2.1, v26_47.2.2.2.2.1, v26_47.2.2.2.2.2.1, v26_47.2.2.2.2.2.2.1, v26_47.2.2.2.2.2.2.2.2.2.2.2.1, v26_47.2.2.2.2.2.2.2.2.2.2.2.2.1, (IntKind.wrap .i64 (v26_47.2.2.2.2.2.2.2.2.2.2.2.2.2.1 + 1)), v58.1, v58.2.1, v58.2.2))
else
rec2 (v26_47.1, v26_47.2.1, v26_47.2.2.1, v26_47.2.2.2.1, v26_47.2.2.2.2.1, v26_47.2.2.2.2.2.1, v26_47.2.2.2.2.2.2.1, v26_47.2.2.2.2.2.2.2.2.2.2.2.1, v26_47.2.2.2.2.2.2.2.2.2.2.2.2.1, (IntKind.wrap .i64 (v26_47.2.2.2.2.2.2.2.2.2.2.2.2.2.1 + 1)), v58.1, v58.2.1, v58.2.2))
def f3_T4 {X : Type} (k : Nat) (K : Bool → Option X) (rec2 : (List CV) × Int × Int × Int × Int × Int × Bool × (List CV) × Int × Int × Nat × Int × (List CV) → Option X)  (rec4 : (List CV) × Int × Int × Int × Int × Int × Bool × Int × Int × Int × Int × (List CV) × Int × Int × Nat × Int × (List CV) → Option X) (v26_47 : (List CV) × Int × Int × Int × Int × Int × Bool × Int × Int × Int × Int × (List CV) × Int × Int × Nat × Int × (List CV)) : Option X :=
(bif (decide (v26_47.2.2.2.2.2.2.2.2.2.2.1 < 5)) then
(bif (decide (v26_47.2.2.2.2.2.2.2.2.2.1 ≤ v26_47.2.2.2.2.1)) then
grd (decide (0 ≤ (IntKind.wrap .i64 (v26_47.2.2.2.2.2.2.2.2.2.2.1 + 1)))) <|
rec4 (v26_47.1, v26_47.2.1, v26_47.2.2.1, v26_47.2.2.2.1, v26_47.2.2.2.2.1, v26_47.2.2.2.2.2.1, v26_47.2.2.2.2.2.2.1, v26_47.2.2.2.2.2.2.2.1, (IntKind.wrap .i64 (v26_47.2.2.2.2.2.2.2.2.1 + 1)), (IntKind.wrap .i64 (v26_47.2.2.2.2.2.2.2.2.2.1 + (IntKind.wrap .i64 (v26_47.2.2.2.1 * 2 ^ (min (Int.toNat (IntKind.wrap .i64 (v26_47.2.2.2.2.2.2.2.2.2.2.1 + 1))) 64))))), (IntKind.wrap .i64 (v26_47.2.2.2.2.2.2.2.2.2.2.1 + 1)), v26_47.2.2.2.2.2.2.2.2.2.2.2.1, v26_47.2.2.2.2.2.2.2.2.2.2.2.2.1, v26_47.2.2.2.2.2.2.2.2.2.2.2.2.2.1, v26_47.2.2.2.2.2.2.2.2.2.2.2.2.2.2.1, v26_47.2.2.2.2.2.2.2.2.2.2.2.2.2.2.2.1, v26_47.2.2.2.2.2.2.2.2.2.2.2.2.2.2.2.2)
else
(bif (!v26_47.2.2.2.2.2.2.1) then
(bif (v26_47.2.2.2.2.2.1 != v26_47.2.2.2.2.2.2.2.2.1) then
K (false)
else
f13 k (fun u54 =>
(bif (!v26_47.2.2.2.2.2.2.1) then
(bif (!(u54.1 == (decide (v26_47.2.2.2.2.2.1 < 5)))) then
K (false)
else
f3_J1 k K rec2 v26_47 (u54.2.1, u54.2.2.1, u54.2.2.2))
else
(bif (!(u54.1 == false)) then
K (false)
else
f3_J1 k K rec2 v26_47 (u54.2.1, u54.2.2.1, u54.2.2.2)))) (3) (9) (v26_47.2.2.2.2.2.2.2.2.2.2.2.2.2.2.1) (v26_47.2.2.2.2.2.2.2.2.2.2.2.2.2.2.2.1) (v26_47.2.2.2.2.2.2.2.2.2.2.2.2.2.2.2.2))
else
f13 k (fun u55 =>
(bif (!v26_47.2.2.2.2.2.2.1) then
(bif (!(u55.1 == (decide (v26_47.2.2.2.2.2.1 < 5)))) then
K (false)
else
f3_J1 k K rec2 v26_47 (u55.2.1, u55.2.2.1, u55.2.2.2))
else
(bif (!(u55.1 == false)) then
K (false)
else
f3_J1 k K rec2 v26_47 (u55.2.1, u55.2.2.1, u55.2.2.2)))) (3) (9) (v26_47.2.2.2.2.2.2.2.2.2.2.2.2.2.2.1) (v26_47.2.2.2.2.2.2.2.2.2.2.2.2.2.2.2.1) (v26_47.2.2.2.2.2.2.2.2.2.2.2.2.2.2.2.2)))
else
(bif (!v26_47.2.2.2.2.2.2.1) then
(bif (v26_47.2.2.2.2.2.1 != v26_47.2.2.2.2.2.2.2.2.1) then
K (false)
else
f13 k (fun u61 =>
(bif (!v26_47.2.2.2.2.2.2.1) then
(bif (!(u61.1 == (decide (v26_47.2.2.2.2.2.1 < 5)))) then
K (false)
else
f3_J2 k K rec2 v26_47 (u61.2.1, u61.2.2.1, u61.2.2.2))
else
(bif (!(u61.1 == false)) then
K (false)
else
f3_J2 k K rec2 v26_47 (u61.2.1, u61.2.2.1, u61.2.2.2)))) (3) (9) (v26_47.2.2.2.2.2.2.2.2.2.2.2.2.2.2.1) (v26_47.2.2.2.2.2.2.2.2.2.2.2.2.2.2.2.1) (v26_47.2.2.2.2.2.2.2.2.2.2.2.2.2.2.2.2))
else
f13 k (fun u62 =>
(bif (!v26_47.2.2.2.2.2.2.1) then
(bif (!(u62.1 == (decide (v26_47.2.2.2.2.2.1 < 5)))) then
K (false)
else
f3_J2 k K rec2 v26_47 (u62.2.1, u62.2.2.1, u62.2.2.2))
else
(bif (!(u62.1 == false)) then
K (false)
else
f3_J2 k K rec2 v26_47 (u62.2.1, u62.2.2.1, u62.2.2.2)))) (3) (9) (v26_47.2.2.2.2.2.2.2.2.2.2.2.2.2.2.1) (v26_47.2.2.2.2.2.2.2.2.2.2.2.2.2.2.2.1) (v26_47.2.2.2.2.2.2.2.2.2.2.2.2.2.2.2.2)))
def f3_L4 {X : Type} (k : Nat) (K : Bool → Option X) (rec2 : (List CV) × Int × Int × Int × Int × Int × Bool × (List CV) × Int × Int × Nat × Int × (List CV) → Option X) (rec4 : (List CV) × Int × Int × Int × Int × Int × Bool × Int × Int × Int × Int × (List CV) × Int × Int × Nat × Int × (List CV) → Option X) (v : (List CV) × Int × Int × Int × Int × Int × Bool × Int × Int × Int × Int × (List CV) × Int × Int × Nat × Int × (List CV)) : Option X := f3_T4 k K rec2  rec4 v
set_option maxRecDepth 100000 in
theorem f3_L4_ev {X : Type} (k : Nat) (K : Out → Option X) (r2 : St → Option X) (r4 : St → Option X) (v : (List CV) × Int × Int × Int × Int × Int × Bool × Int × Int × Int × Int × (List CV) × Int × Int × Nat × Int × (List CV)) : loopB (f3_cx k) k [.r, .r, .r, .r, .r, .r, .r, .r, .r, .r, .r, .l, .r, .b, .o, .r, .r, .l, .b, .r, .r, .r, .r, .l, .r, .b] (Try.f3.body.getD .skip) (retK (f3_cx k) [] Try.f3.results.toList K) [r2] r4 (f3_S4 v) = f3_T4 k (fun u => K (f3_out u)) (fun v => r2 (f3_S2 v))  (fun v => r4 (f3_S4 v)) v := by kernel_rfl
theorem f3_L4_it {X : Type} (k : Nat) (K : Out → Option X) (r2 : St → Option X) : (fun v => iter (loopB (f3_cx k) k [.r, .r, .r, .r, .r, .r, .r, .r, .r, .r, .r, .l, .r, .b, .o, .r, .r, .l, .b, .r, .r, .r, .r, .l, .r, .b] (Try.f3.body.getD .skip) (retK (f3_cx k) [] Try.f3.results.toList K) [r2]) k (f3_S4 v)) = iterV (f3_L4 k (fun u => K (f3_out u)) (fun v => r2 (f3_S2 v))) k :=
  iter_map (fun r4 v => (f3_L4_ev k K r2 r4 v).trans rfl) k
def f3_T3 {X : Type} (k : Nat) (K : Bool → Option X) (rec2 : (List CV) × Int × Int × Int × Int × Int × Bool × (List CV) × Int × Int × Nat × Int × (List CV) → Option X) (loop4 : (List CV) × Int × Int × Int × Int × Int × Bool × Int × Int × Int × Int × (List CV) × Int × Int × Nat × Int × (List CV) → Option X) (rec3 : (List CV) × Int × Int × Int × Int × Int × Bool × Int × (List CV) × Int × Int × Nat × Int × Int × Nat × Int × (List CV) × (List CV) → Option X) (v24_38 : (List CV) × Int × Int × Int × Int × Int × Bool × Int × (List CV) × Int × Int × Nat × Int × Int × Nat × Int × (List CV) × (List CV)) : Option X :=
(bif (decide (v24_38.2.2.2.2.2.2.2.2.2.2.2.2.2.1 < v24_38.2.2.2.2.2.2.2.2.2.2.2.2.1)) then
grd (decide (0 ≤ v24_38.2.2.2.2.2.2.2.2.2.2.2.2.2.1)) <|
grd (decide (v24_38.2.2.2.2.2.2.2.2.2.2.2.2.2.1 < (Nat.cast (v24_38.2.2.2.2.2.2.2.2.2.2.2.1) : Int))) <|
Option.bind (v24_38.2.2.2.2.2.2.2.2.2.2.2.2.2.2.2.2.2)[(0 + (Int.toNat v24_38.2.2.2.2.2.2.2.2.2.2.2.2.2.1))]? fun e46 =>
grd (CV.isA 4 e46) <|
grd (CV.isI .i64 (CV.cellD 0 e46)) <|
grd (CV.isI .i64 (CV.cellD 1 e46)) <|
grd (CV.isL none (CV.cellD 2 e46)) <|
grd (CV.isB (CV.cellD 3 e46)) <|
(bif v24_38.2.2.2.2.2.2.1 then
K (false)
else
(bif ((CV.toI (CV.cellD 0 e46)) != 3) then
K (false)
else
(bif ((CV.toI (CV.cellD 1 e46)) != 9) then
K (false)
else
f12 k (fun u47 =>
(bif (!u47) then
K (false)
else
(bif (!((CV.toB (CV.cellD 3 e46)) == ((IntKind.wrap .i64 (v24_38.2.2.2.2.2.1 + 1)) == 5))) then
K (false)
else
rec3 (v24_38.1, v24_38.2.1, v24_38.2.2.1, v24_38.2.2.2.1, v24_38.2.2.2.2.1, (IntKind.wrap .i64 (v24_38.2.2.2.2.2.1 + 1)), v24_38.2.2.2.2.2.2.1, v24_38.2.2.2.2.2.2.2.1, v24_38.2.2.2.2.2.2.2.2.1, v24_38.2.2.2.2.2.2.2.2.2.1, v24_38.2.2.2.2.2.2.2.2.2.2.1, v24_38.2.2.2.2.2.2.2.2.2.2.2.1, v24_38.2.2.2.2.2.2.2.2.2.2.2.2.1, (IntKind.wrap .i64 (v24_38.2.2.2.2.2.2.2.2.2.2.2.2.2.1 + 1)), v24_38.2.2.2.2.2.2.2.2.2.2.2.2.2.2.1, v24_38.2.2.2.2.2.2.2.2.2.2.2.2.2.2.2.1, v24_38.2.2.2.2.2.2.2.2.2.2.2.2.2.2.2.2.1, v24_38.2.2.2.2.2.2.2.2.2.2.2.2.2.2.2.2.2)))) ((CV.toL (CV.cellD 2 e46))) (v24_38.1))))
else
loop4 (v24_38.1, v24_38.2.1, v24_38.2.2.1, v24_38.2.2.2.1, v24_38.2.2.2.2.1, v24_38.2.2.2.2.2.1, v24_38.2.2.2.2.2.2.1, v24_38.2.2.2.2.2.2.2.1, 0, (IntKind.wrap .i64 (v24_38.2.1 + v24_38.2.2.2.1)), 0, v24_38.2.2.2.2.2.2.2.2.1, v24_38.2.2.2.2.2.2.2.2.2.1, v24_38.2.2.2.2.2.2.2.2.2.2.1, v24_38.2.2.2.2.2.2.2.2.2.2.2.2.2.2.1, v24_38.2.2.2.2.2.2.2.2.2.2.2.2.2.2.2.1, v24_38.2.2.2.2.2.2.2.2.2.2.2.2.2.2.2.2.1))
def f3_L3 {X : Type} (k : Nat) (K : Bool → Option X) (rec2 : (List CV) × Int × Int × Int × Int × Int × Bool × (List CV) × Int × Int × Nat × Int × (List CV) → Option X) (rec3 : (List CV) × Int × Int × Int × Int × Int × Bool × Int × (List CV) × Int × Int × Nat × Int × Int × Nat × Int × (List CV) × (List CV) → Option X) (v : (List CV) × Int × Int × Int × Int × Int × Bool × Int × (List CV) × Int × Int × Nat × Int × Int × Nat × Int × (List CV) × (List CV)) : Option X := f3_T3 k K rec2 (iterV (f3_L4 k K rec2) k) rec3 v
set_option maxRecDepth 100000 in
theorem f3_L3_ev {X : Type} (k : Nat) (K : Out → Option X) (r2 : St → Option X) (r3 : St → Option X) (v : (List CV) × Int × Int × Int × Int × Int × Bool × Int × (List CV) × Int × Int × Nat × Int × Int × Nat × Int × (List CV) × (List CV)) : loopB (f3_cx k) k [.r, .r, .r, .r, .r, .r, .r, .r, .r, .r, .r, .l, .r, .b, .o, .r, .r, .l, .b, .r, .r, .l, .r, .b] (Try.f3.body.getD .skip) (retK (f3_cx k) [] Try.f3.results.toList K) [r2] r3 (f3_S3 v) = f3_T3 k (fun u => K (f3_out u)) (fun v => r2 (f3_S2 v)) (fun v => iter (loopB (f3_cx k) k [.r, .r, .r, .r, .r, .r, .r, .r, .r, .r, .r, .l, .r, .b, .o, .r, .r, .l, .b, .r, .r, .r, .r, .l, .r, .b] (Try.f3.body.getD .skip) (retK (f3_cx k) [] Try.f3.results.toList K) [r2]) k (f3_S4 v)) (fun v => r3 (f3_S3 v)) v := by kernel_rfl
theorem f3_L3_it {X : Type} (k : Nat) (K : Out → Option X) (r2 : St → Option X) : (fun v => iter (loopB (f3_cx k) k [.r, .r, .r, .r, .r, .r, .r, .r, .r, .r, .r, .l, .r, .b, .o, .r, .r, .l, .b, .r, .r, .l, .r, .b] (Try.f3.body.getD .skip) (retK (f3_cx k) [] Try.f3.results.toList K) [r2]) k (f3_S3 v)) = iterV (f3_L3 k (fun u => K (f3_out u)) (fun v => r2 (f3_S2 v))) k :=
  iter_map (fun r3 v => (f3_L3_ev k K r2 r3 v).trans (by rw [f3_L4_it k K r2]; rfl)) k
def f3_T2 {X : Type} (k : Nat) (K : Bool → Option X)  (loop3 : (List CV) × Int × Int × Int × Int × Int × Bool × Int × (List CV) × Int × Int × Nat × Int × Int × Nat × Int × (List CV) × (List CV) → Option X) (rec2 : (List CV) × Int × Int × Int × Int × Int × Bool × (List CV) × Int × Int × Nat × Int × (List CV) → Option X) (v14_11 : (List CV) × Int × Int × Int × Int × Int × Bool × (List CV) × Int × Int × Nat × Int × (List CV)) : Option X :=
(bif (decide (v14_11.2.2.2.2.2.2.2.2.2.1 < v14_11.2.2.2.2.2.2.2.2.1)) then
grd (decide (0 ≤ v14_11.2.2.2.2.2.2.2.2.2.1)) <|
Option.bind (v14_11.2.2.2.2.2.2.2.1)[(Int.toNat v14_11.2.2.2.2.2.2.2.2.2.1)]? fun e37 =>
grd (CV.isI .i64 e37) <|
f11 k (fun u38 =>
loop3 (v14_11.1, v14_11.2.1, v14_11.2.2.1, v14_11.2.2.2.1, (IntKind.wrap .i64 (v14_11.2.2.2.2.1 + (bop .and .i64 (CV.toI e37) 255))), v14_11.2.2.2.2.2.1, v14_11.2.2.2.2.2.2.1, v14_11.2.2.2.2.2.2.2.2.2.1, v14_11.2.2.2.2.2.2.2.1, v14_11.2.2.2.2.2.2.2.2.1, v14_11.2.2.2.2.2.2.2.2.2.1, u38.1, (Nat.cast (u38.1) : Int), 0, u38.2.1, u38.2.2.1, u38.2.2.2.1, u38.2.2.2.2)) ((IntKind.wrap .i64 (v14_11.2.2.2.2.1 + (bop .and .i64 (CV.toI e37) 255)))) (v14_11.2.2.2.2.2.2.2.2.2.2.1) (v14_11.2.2.2.2.2.2.2.2.2.2.2.1) (v14_11.2.2.2.2.2.2.2.2.2.2.2.2)
else
K (true))
def f3_L2 {X : Type} (k : Nat) (K : Bool → Option X)  (rec2 : (List CV) × Int × Int × Int × Int × Int × Bool × (List CV) × Int × Int × Nat × Int × (List CV) → Option X) (v : (List CV) × Int × Int × Int × Int × Int × Bool × (List CV) × Int × Int × Nat × Int × (List CV)) : Option X := f3_T2 k K  (iterV (f3_L3 k K rec2) k) rec2 v
set_option maxRecDepth 100000 in
theorem f3_L2_ev {X : Type} (k : Nat) (K : Out → Option X)  (r2 : St → Option X) (v : (List CV) × Int × Int × Int × Int × Int × Bool × (List CV) × Int × Int × Nat × Int × (List CV)) : loopB (f3_cx k) k [.r, .r, .r, .r, .r, .r, .r, .r, .r, .r, .r, .l, .r, .b] (Try.f3.body.getD .skip) (retK (f3_cx k) [] Try.f3.results.toList K) [] r2 (f3_S2 v) = f3_T2 k (fun u => K (f3_out u))  (fun v => iter (loopB (f3_cx k) k [.r, .r, .r, .r, .r, .r, .r, .r, .r, .r, .r, .l, .r, .b, .o, .r, .r, .l, .b, .r, .r, .l, .r, .b] (Try.f3.body.getD .skip) (retK (f3_cx k) [] Try.f3.results.toList K) [r2]) k (f3_S3 v)) (fun v => r2 (f3_S2 v)) v := by kernel_rfl
theorem f3_L2_it {X : Type} (k : Nat) (K : Out → Option X)  : (fun v => iter (loopB (f3_cx k) k [.r, .r, .r, .r, .r, .r, .r, .r, .r, .r, .r, .l, .r, .b] (Try.f3.body.getD .skip) (retK (f3_cx k) [] Try.f3.results.toList K) []) k (f3_S2 v)) = iterV (f3_L2 k (fun u => K (f3_out u)) ) k :=
  iter_map (fun r2 v => (f3_L2_ev k K  r2 v).trans (by rw [f3_L3_it k K r2]; rfl)) k
def f3_T1 {X : Type} (k : Nat) (K : Bool → Option X)  (loop2 : (List CV) × Int × Int × Int × Int × Int × Bool × (List CV) × Int × Int × Nat × Int × (List CV) → Option X) (rec1 : (List CV) × Int × Int × (List CV) × Int × Nat × Int × Int × (List CV) × Nat × Int × (List CV) → Option X) (v9_6 : (List CV) × Int × Int × (List CV) × Int × Nat × Int × Int × (List CV) × Nat × Int × (List CV)) : Option X :=
(bif (decide (v9_6.2.2.2.2.2.2.2.1 < v9_6.2.2.2.2.2.2.1)) then
grd (decide (0 ≤ v9_6.2.2.2.2.2.2.2.1)) <|
grd (decide (v9_6.2.2.2.2.2.2.2.1 < (Nat.cast (v9_6.2.2.2.2.2.1) : Int))) <|
Option.bind (v9_6.2.2.2.2.2.2.2.2.1)[(0 + (Int.toNat v9_6.2.2.2.2.2.2.2.1))]? fun e11 =>
grd (CV.isI .u8 e11) <|
grd (decide (0 ≤ v9_6.2.2.2.2.2.2.2.1)) <|
grd (decide (v9_6.2.2.2.2.2.2.2.1 < (Nat.cast (v9_6.2.2.2.2.2.1) : Int))) <|
grd (decide ((0 + (Int.toNat v9_6.2.2.2.2.2.2.2.1)) < (List.length v9_6.2.2.2.2.2.2.2.2.1))) <|
rec1 (v9_6.1, v9_6.2.1, v9_6.2.2.1, v9_6.2.2.2.1, v9_6.2.2.2.2.1, v9_6.2.2.2.2.2.1, v9_6.2.2.2.2.2.2.1, (IntKind.wrap .i64 (v9_6.2.2.2.2.2.2.2.1 + 1)), (List.set v9_6.2.2.2.2.2.2.2.2.1 (0 + (Int.toNat v9_6.2.2.2.2.2.2.2.1)) (CV.int .u8 (IntKind.wrap .u8 ((CV.toI e11) + 1)))), v9_6.2.2.2.2.2.2.2.2.2.1, v9_6.2.2.2.2.2.2.2.2.2.2.1, v9_6.2.2.2.2.2.2.2.2.2.2.2)
else
loop2 (v9_6.1, v9_6.2.1, v9_6.2.2.2.2.1, (IntKind.wrap .i64 (20 + (Int.tmod (if 0 > v9_6.2.2.1 then 0 else v9_6.2.2.1) 11))), v9_6.2.1, 0, false, v9_6.2.2.2.1, (Nat.cast ((List.length v9_6.2.2.2.1)) : Int), 0, v9_6.2.2.2.2.2.2.2.2.2.1, v9_6.2.2.2.2.2.2.2.2.2.2.1, v9_6.2.2.2.2.2.2.2.2.2.2.2))
def f3_L1 {X : Type} (k : Nat) (K : Bool → Option X)  (rec1 : (List CV) × Int × Int × (List CV) × Int × Nat × Int × Int × (List CV) × Nat × Int × (List CV) → Option X) (v : (List CV) × Int × Int × (List CV) × Int × Nat × Int × Int × (List CV) × Nat × Int × (List CV)) : Option X := f3_T1 k K  (iterV (f3_L2 k K ) k) rec1 v
set_option maxRecDepth 100000 in
theorem f3_L1_ev {X : Type} (k : Nat) (K : Out → Option X)  (r1 : St → Option X) (v : (List CV) × Int × Int × (List CV) × Int × Nat × Int × Int × (List CV) × Nat × Int × (List CV)) : loopB (f3_cx k) k [.r, .r, .r, .r, .r, .r, .l, .r, .b] (Try.f3.body.getD .skip) (retK (f3_cx k) [] Try.f3.results.toList K) [] r1 (f3_S1 v) = f3_T1 k (fun u => K (f3_out u))  (fun v => iter (loopB (f3_cx k) k [.r, .r, .r, .r, .r, .r, .r, .r, .r, .r, .r, .l, .r, .b] (Try.f3.body.getD .skip) (retK (f3_cx k) [] Try.f3.results.toList K) []) k (f3_S2 v)) (fun v => r1 (f3_S1 v)) v := by kernel_rfl
theorem f3_L1_it {X : Type} (k : Nat) (K : Out → Option X)  : (fun v => iter (loopB (f3_cx k) k [.r, .r, .r, .r, .r, .r, .l, .r, .b] (Try.f3.body.getD .skip) (retK (f3_cx k) [] Try.f3.results.toList K) []) k (f3_S1 v)) = iterV (f3_L1 k (fun u => K (f3_out u)) ) k :=
  iter_map (fun r1 v => (f3_L1_ev k K  r1 v).trans (by rw [f3_L2_it k K ]; rfl)) k
def f3_T {X : Type} (k : Nat) (K : Bool → Option X) (loop1 : (List CV) × Int × Int × (List CV) × Int × Nat × Int × Int × (List CV) × Nat × Int × (List CV) → Option X) (x0 : List CV) (x1 : Int) (x2 : Int) (x3 : List CV) (x4 : Int) : Option X :=
f7 k (fun u2 =>
(bif (!u2) then
K (false)
else
(bif (decide ((Nat.cast ((List.length x0)) : Int) > 200)) then
K (true)
else
(bif (decide ((Nat.cast ((List.length x3)) : Int) > 40)) then
K (true)
else
(bif (decide (x1 < 0)) then
K (true)
else
(bif (decide (x1 > 549755813888)) then
K (true)
else
f8 k (fun u3 =>
f9 k (fun u4 =>
f10 k (fun u6 =>
(bif (u6.1 != 0) then
K (false)
else
loop1 (x0, x1, x2, x3, x4, u4.1, (Nat.cast (u4.1) : Int), 0, u4.2, u6.2.1, u6.2.2.1, u6.2.2.2))) (3) (9) ((List.take u4.1 (List.drop 0 u4.2))) (x1) (x2) (0) (0) (u3)) (x0)) )))))) 
/-- "outpost/outpostlaw12.ExchTimes" -/
def f3 {X : Type} (k : Nat) (K : Bool → Option X) (x0 : List CV) (x1 : Int) (x2 : Int) (x3 : List CV) (x4 : Int) : Option X := f3_T k K (iterV (f3_L1 k K) k) x0 x1 x2 x3 x4
set_option maxRecDepth 100000 in
theorem f3_ev' {X : Type} (k : Nat) (K : Out → Option X) (x0 : List CV) (x1 : Int) (x2 : Int) (x3 : List CV) (x4 : Int) : evFn (f3_cx k) [] k Try.f3.ntmps Try.f3.results.toList (Try.f3.body.getD .skip) [(.sl true none x0), (.v (CV.int .i64 x1)), (.v (CV.int .i64 x2)), (.sl true none x3), (.v (CV.int .i64 x4))] [] K = f3_T k (fun u => K (f3_out u)) (fun v => iter (loopB (f3_cx k) k [.r, .r, .r, .r, .r, .r, .l, .r, .b] (Try.f3.body.getD .skip) (retK (f3_cx k) [] Try.f3.results.toList K) []) k (f3_S1 v)) x0 x1 x2 x3 x4 := by kernel_rfl
theorem f3_ev {X : Type} (k : Nat) (K : Out → Option X) (x0 : List CV) (x1 : Int) (x2 : Int) (x3 : List CV) (x4 : Int) : evFn (f3_cx k) [] k Try.f3.ntmps Try.f3.results.toList (Try.f3.body.getD .skip) [(.sl true none x0), (.v (CV.int .i64 x1)), (.v (CV.int .i64 x2)), (.sl true none x3), (.v (CV.int .i64 x4))] [] K = f3 k (fun u => K (f3_out u)) x0 x1 x2 x3 x4 := (f3_ev' k K x0 x1 x2 x3 x4).trans (by rw [f3_L1_it k K]; rfl)
def f3_c (k : Nat) : FnC := fun X xs ns K => match xs, ns with
  | [(.sl true none x0), (.v (CV.int .i64 x1)), (.v (CV.int .i64 x2)), (.sl true none x3), (.v (CV.int .i64 x4))], [] => f3 k (fun u => K (f3_out u)) x0 x1 x2 x3 x4
  | _, _ => none
theorem f3_ok (k : Nat) : AnsOk Try.prog 3 (f3_c k) := by
  intro X xs ns K x h
  unfold f3_c at h ⊢
  split at h
  · exact ans_main S (f3_Cok k) Try.func3 (ent_of Try.func3 (by kernel_rfl) rfl) rfl (fun X K => f3_ev k K _ _ _ _ _) h
  · cases h
def f15_plan : Nat → Option (List Nat × List Wk)
  | 0 => some ([0], [])
  | 1 => some ([0], [])
  | 2 => some ([0, 5, 6, 7], [])
  | 3 => some ([0, 5, 6, 7], [])
  | 4 => some ([0, 4, 5, 6, 7], [])
  | 5 => some ([], [])
  | 6 => some ([0, 5, 6, 7], [])
  | 7 => some ([0], [])
  | _ => none
def f15_C (k : Nat) : Fns := noC
theorem f15_Cok (k : Nat) : CsOk Try.prog (f15_C k) := noC_ok
def f15_cx (k : Nat) : Cx := mkCx (tabOf rows) (f15_C k) md f15_plan (f15_Cok k)
def f15_out (u : Bool) : Out := ⟨(.v (CV.bool u)), []⟩
def f15_S1 (v : (List CV) × (List CV) × Int × Int) : St := ⟨[(.sl false (some 6) v.1), .undef, .undef, .undef, .undef, (.sl false (some 6) v.2.1), (.v (CV.int .i64 v.2.2.1)), (.v (CV.int .i64 v.2.2.2)), .undef, .undef, .undef, .undef, .undef, .undef, .undef, .undef, .undef, .undef, .undef], []⟩
def f15_T1 {X : Type} (k : Nat) (K : Bool → Option X)   (rec1 : (List CV) × (List CV) × Int × Int → Option X) (v4_0 : (List CV) × (List CV) × Int × Int) : Option X :=
(bif (decide (v4_0.2.2.2 < v4_0.2.2.1)) then
grd (decide (0 ≤ v4_0.2.2.2)) <|
Option.bind (v4_0.2.1)[(Int.toNat v4_0.2.2.2)]? fun e5 =>
grd (CV.isA 6 e5) <|
grd (CV.isI .i64 (CV.cellD 0 e5)) <|
grd (CV.isI .i64 (CV.cellD 1 e5)) <|
grd (CV.isI .i64 (CV.cellD 2 e5)) <|
grd (CV.isL none (CV.cellD 3 e5)) <|
grd (CV.isI .i64 (CV.cellD 4 e5)) <|
grd (CV.isI .i64 (CV.cellD 5 e5)) <|
(bif (decide ((Nat.cast ((List.length (CV.toL (CV.cellD 3 e5)))) : Int) > 200)) then
K (false)
else
rec1 (v4_0.1, v4_0.2.1, v4_0.2.2.1, (IntKind.wrap .i64 (v4_0.2.2.2 + 1))))
else
K ((decide ((Nat.cast ((List.length v4_0.1)) : Int) ≤ 60))))
def f15_L1 {X : Type} (k : Nat) (K : Bool → Option X)  (rec1 : (List CV) × (List CV) × Int × Int → Option X) (v : (List CV) × (List CV) × Int × Int) : Option X := f15_T1 k K   rec1 v
set_option maxRecDepth 100000 in
theorem f15_L1_ev {X : Type} (k : Nat) (K : Out → Option X)  (r1 : St → Option X) (v : (List CV) × (List CV) × Int × Int) : loopB (f15_cx k) k [.r, .l, .r, .b] (Try.f15.body.getD .skip) (retK (f15_cx k) [] Try.f15.results.toList K) [] r1 (f15_S1 v) = f15_T1 k (fun u => K (f15_out u))   (fun v => r1 (f15_S1 v)) v := by kernel_rfl
theorem f15_L1_it {X : Type} (k : Nat) (K : Out → Option X)  : (fun v => iter (loopB (f15_cx k) k [.r, .l, .r, .b] (Try.f15.body.getD .skip) (retK (f15_cx k) [] Try.f15.results.toList K) []) k (f15_S1 v)) = iterV (f15_L1 k (fun u => K (f15_out u)) ) k :=
  iter_map (fun r1 v => (f15_L1_ev k K  r1 v).trans rfl) k
def f15_T {X : Type} (k : Nat) (K : Bool → Option X) (loop1 : (List CV) × (List CV) × Int × Int → Option X) (x0 : List CV) : Option X :=
loop1 (x0, x0, (Nat.cast ((List.length x0)) : Int), 0)
/-- "outpost/outpostlaw12.small" -/
def f15 {X : Type} (k : Nat) (K : Bool → Option X) (x0 : List CV) : Option X := f15_T k K (iterV (f15_L1 k K) k) x0
set_option maxRecDepth 100000 in
theorem f15_ev' {X : Type} (k : Nat) (K : Out → Option X) (x0 : List CV) : evFn (f15_cx k) [] k Try.f15.ntmps Try.f15.results.toList (Try.f15.body.getD .skip) [(.sl false (some 6) x0)] [] K = f15_T k (fun u => K (f15_out u)) (fun v => iter (loopB (f15_cx k) k [.r, .l, .r, .b] (Try.f15.body.getD .skip) (retK (f15_cx k) [] Try.f15.results.toList K) []) k (f15_S1 v)) x0 := by kernel_rfl
theorem f15_ev {X : Type} (k : Nat) (K : Out → Option X) (x0 : List CV) : evFn (f15_cx k) [] k Try.f15.ntmps Try.f15.results.toList (Try.f15.body.getD .skip) [(.sl false (some 6) x0)] [] K = f15 k (fun u => K (f15_out u)) x0 := (f15_ev' k K x0).trans (by rw [f15_L1_it k K]; rfl)
def f15_c (k : Nat) : FnC := fun X xs ns K => match xs, ns with
  | [(.sl false (some 6) x0)], [] => f15 k (fun u => K (f15_out u)) x0
  | _, _ => none
theorem f15_ok (k : Nat) : AnsOk Try.prog 15 (f15_c k) := by
  intro X xs ns K x h
  unfold f15_c at h ⊢
  split at h
  · exact ans_main S (f15_Cok k) Try.func15 (ent_of Try.func15 (by kernel_rfl) rfl) rfl (fun X K => f15_ev k K _) h
  · cases h
def f17_plan : Nat → Option (List Nat × List Wk)
  | 0 => some ([0], [])
  | 1 => some ([0], [])
  | 2 => some ([0, 3], [])
  | 3 => some ([3, 7, 8, 9], [])
  | 4 => some ([3, 7, 8, 9], [])
  | 5 => some ([3, 5, 7, 8, 9], [])
  | 6 => some ([3, 7, 8, 9], [])
  | 7 => some ([3], [])
  | _ => none
def f17_C (k : Nat) : Fns := noC
theorem f17_Cok (k : Nat) : CsOk Try.prog (f17_C k) := noC_ok
def f17_cx (k : Nat) : Cx := mkCx (tabOf rows) (f17_C k) md f17_plan (f17_Cok k)
def f17_out (u : Nat × (List CV)) : Out := ⟨(.osl [2000] (some 4) 0 u.1), [([2000], (.row false (some 4) u.2))]⟩
def f17_S1 (v : Nat × (List CV) × Int × Int × (List CV)) : St := ⟨[.undef, .undef, .undef, (.osl [3] (some 4) 0 v.1), .undef, .undef, .undef, (.sl false (some 4) v.2.1), (.v (CV.int .i64 v.2.2.1)), (.v (CV.int .i64 v.2.2.2.1)), .undef, .undef, .undef, .undef, .undef, .undef, .undef, .undef, .undef, .undef, .undef, .undef, .undef, .undef, .undef, .undef, .undef], [([3], (.row false (some 4) v.2.2.2.2))]⟩
def f17_T1 {X : Type} (k : Nat) (K : Nat × (List CV) → Option X)   (rec1 : Nat × (List CV) × Int × Int × (List CV) → Option X) (v5_0 : Nat × (List CV) × Int × Int × (List CV)) : Option X :=
(bif (decide (v5_0.2.2.2.1 < v5_0.2.2.1)) then
grd (decide (0 ≤ v5_0.2.2.2.1)) <|
Option.bind (v5_0.2.1)[(Int.toNat v5_0.2.2.2.1)]? fun e5 =>
grd (CV.isA 4 e5) <|
grd (CV.isI .i64 (CV.cellD 0 e5)) <|
grd (CV.isI .i64 (CV.cellD 1 e5)) <|
grd (CV.isL none (CV.cellD 2 e5)) <|
grd (CV.isB (CV.cellD 3 e5)) <|
grd (decide ((v5_0.1 + (List.length (List.take 1 (List.drop 0 [(CV.agg [(CV.int .i64 (CV.toI (CV.cellD 0 e5))), (CV.int .i64 (CV.toI (CV.cellD 1 e5))), (CV.slc none (CV.toL (CV.cellD 2 e5))), (CV.bool (CV.toB (CV.cellD 3 e5)))])])))) * 48 ≤ 140737488355328)) <|
rec1 ((v5_0.1 + (List.length (List.take 1 (List.drop 0 [(CV.agg [(CV.int .i64 (CV.toI (CV.cellD 0 e5))), (CV.int .i64 (CV.toI (CV.cellD 1 e5))), (CV.slc none (CV.toL (CV.cellD 2 e5))), (CV.bool (CV.toB (CV.cellD 3 e5)))])])))), v5_0.2.1, v5_0.2.2.1, (IntKind.wrap .i64 (v5_0.2.2.2.1 + 1)), ((List.take v5_0.1 v5_0.2.2.2.2) ++ (List.take 1 (List.drop 0 [(CV.agg [(CV.int .i64 (CV.toI (CV.cellD 0 e5))), (CV.int .i64 (CV.toI (CV.cellD 1 e5))), (CV.slc none (CV.toL (CV.cellD 2 e5))), (CV.bool (CV.toB (CV.cellD 3 e5)))])]))))
else
K (v5_0.1, (List.take (0 + v5_0.1) v5_0.2.2.2.2)))
def f17_L1 {X : Type} (k : Nat) (K : Nat × (List CV) → Option X)  (rec1 : Nat × (List CV) × Int × Int × (List CV) → Option X) (v : Nat × (List CV) × Int × Int × (List CV)) : Option X := f17_T1 k K   rec1 v
set_option maxRecDepth 100000 in
theorem f17_L1_ev {X : Type} (k : Nat) (K : Out → Option X)  (r1 : St → Option X) (v : Nat × (List CV) × Int × Int × (List CV)) : loopB (f17_cx k) k [.r, .r, .l, .r, .b] (Try.f17.body.getD .skip) (retK (f17_cx k) [] Try.f17.results.toList K) [] r1 (f17_S1 v) = f17_T1 k (fun u => K (f17_out u))   (fun v => r1 (f17_S1 v)) v := by kernel_rfl
theorem f17_L1_it {X : Type} (k : Nat) (K : Out → Option X)  : (fun v => iter (loopB (f17_cx k) k [.r, .r, .l, .r, .b] (Try.f17.body.getD .skip) (retK (f17_cx k) [] Try.f17.results.toList K) []) k (f17_S1 v)) = iterV (f17_L1 k (fun u => K (f17_out u)) ) k :=
  iter_map (fun r1 v => (f17_L1_ev k K  r1 v).trans rfl) k
def f17_T {X : Type} (k : Nat) (K : Nat × (List CV) → Option X) (loop1 : Nat × (List CV) × Int × Int × (List CV) → Option X) (x0 : List CV) : Option X :=
loop1 (0, x0, (Nat.cast ((List.length x0)) : Int), 0, [])
/-- "outpost/outpostlaw12.as" -/
def f17 {X : Type} (k : Nat) (K : Nat × (List CV) → Option X) (x0 : List CV) : Option X := f17_T k K (iterV (f17_L1 k K) k) x0
set_option maxRecDepth 100000 in
theorem f17_ev' {X : Type} (k : Nat) (K : Out → Option X) (x0 : List CV) : evFn (f17_cx k) [] k Try.f17.ntmps Try.f17.results.toList (Try.f17.body.getD .skip) [(.sl false (some 4) x0)] [] K = f17_T k (fun u => K (f17_out u)) (fun v => iter (loopB (f17_cx k) k [.r, .r, .l, .r, .b] (Try.f17.body.getD .skip) (retK (f17_cx k) [] Try.f17.results.toList K) []) k (f17_S1 v)) x0 := by kernel_rfl
theorem f17_ev {X : Type} (k : Nat) (K : Out → Option X) (x0 : List CV) : evFn (f17_cx k) [] k Try.f17.ntmps Try.f17.results.toList (Try.f17.body.getD .skip) [(.sl false (some 4) x0)] [] K = f17 k (fun u => K (f17_out u)) x0 := (f17_ev' k K x0).trans (by rw [f17_L1_it k K]; rfl)
def f17_c (k : Nat) : FnC := fun X xs ns K => match xs, ns with
  | [(.sl false (some 4) x0)], [] => f17 k (fun u => K (f17_out u)) x0
  | _, _ => none
theorem f17_ok (k : Nat) : AnsOk Try.prog 17 (f17_c k) := by
  intro X xs ns K x h
  unfold f17_c at h ⊢
  split at h
  · exact ans_main S (f17_Cok k) Try.func17 (ent_of Try.func17 (by kernel_rfl) rfl) rfl (fun X K => f17_ev k K _) h
  · cases h
def f16_plan : Nat → Option (List Nat × List Wk)
  | 0 => some ([0, 1], [])
  | 1 => some ([0, 1], [])
  | 2 => some ([], [])
  | 3 => some ([0, 1], [])
  | 4 => some ([0, 1, 5], [])
  | 5 => some ([0, 1, 5], [])
  | 6 => some ([0, 1, 5], [])
  | 7 => some ([], [])
  | 8 => some ([], [])
  | _ => none
def f16_C (k : Nat) : Fns := (orC 12 (f12_c k) noC)
theorem f16_Cok (k : Nat) : CsOk Try.prog (f16_C k) := (orC_ok (f12_ok k) noC_ok)
def f16_cx (k : Nat) : Cx := mkCx (tabOf rows) (f16_C k) md f16_plan (f16_Cok k)
def f16_out (u : Bool) : Out := ⟨(.v (CV.bool u)), []⟩
def f16_S1 (v : (List CV) × (List CV) × Int) : St := ⟨[(.sl false (some 4) v.1), (.sl false (some 4) v.2.1), .undef, .undef, .undef, (.v (CV.int .i64 v.2.2)), .undef, .undef, .undef, .undef, .undef, .undef, .undef, .undef, .undef, .undef, .undef, .undef, .undef, .undef, .undef, .undef, .undef, .undef, .undef, .undef, .undef, .undef, .undef, .undef, .undef, .undef, .undef, .undef, .undef, .undef, .undef, .undef, .undef, .undef, .undef, .undef, .undef, .undef, .undef, .undef, .undef, .undef, .undef, .undef, .undef, .undef, .undef, .undef, .undef, .undef, .undef, .undef, .undef, .undef, .undef, .undef, .undef, .undef, .undef, .undef, .undef, .undef], []⟩
def f16_T1 {X : Type} (k : Nat) (K : Bool → Option X)   (rec1 : (List CV) × (List CV) × Int → Option X) (v5_0 : (List CV) × (List CV) × Int) : Option X :=
(bif (decide (v5_0.2.2 < (Nat.cast ((List.length v5_0.1)) : Int))) then
grd (decide (0 ≤ v5_0.2.2)) <|
Option.bind (v5_0.1)[(Int.toNat v5_0.2.2)]? fun e53 =>
Option.bind (CV.cell e53 0) fun c54 =>
grd (CV.isI .i64 c54) <|
grd (decide (0 ≤ v5_0.2.2)) <|
Option.bind (v5_0.2.1)[(Int.toNat v5_0.2.2)]? fun e55 =>
Option.bind (CV.cell e55 0) fun c56 =>
grd (CV.isI .i64 c56) <|
(bif ((CV.toI c54) != (CV.toI c56)) then
K (false)
else
grd (decide (0 ≤ v5_0.2.2)) <|
Option.bind (v5_0.1)[(Int.toNat v5_0.2.2)]? fun e57 =>
Option.bind (CV.cell e57 1) fun c58 =>
grd (CV.isI .i64 c58) <|
grd (decide (0 ≤ v5_0.2.2)) <|
Option.bind (v5_0.2.1)[(Int.toNat v5_0.2.2)]? fun e59 =>
Option.bind (CV.cell e59 1) fun c60 =>
grd (CV.isI .i64 c60) <|
(bif ((CV.toI c58) != (CV.toI c60)) then
K (false)
else
grd (decide (0 ≤ v5_0.2.2)) <|
Option.bind (v5_0.1)[(Int.toNat v5_0.2.2)]? fun e61 =>
Option.bind (CV.cell e61 3) fun c62 =>
grd (CV.isB c62) <|
grd (decide (0 ≤ v5_0.2.2)) <|
Option.bind (v5_0.2.1)[(Int.toNat v5_0.2.2)]? fun e63 =>
Option.bind (CV.cell e63 3) fun c64 =>
grd (CV.isB c64) <|
(bif (!((CV.toB c62) == (CV.toB c64))) then
K (false)
else
grd (decide (0 ≤ v5_0.2.2)) <|
Option.bind (v5_0.1)[(Int.toNat v5_0.2.2)]? fun e65 =>
Option.bind (CV.cell e65 2) fun c66 =>
grd (CV.isL none c66) <|
grd (decide (0 ≤ v5_0.2.2)) <|
Option.bind (v5_0.2.1)[(Int.toNat v5_0.2.2)]? fun e67 =>
Option.bind (CV.cell e67 2) fun c68 =>
grd (CV.isL none c68) <|
f12 k (fun u69 =>
(bif (!u69) then
K (false)
else
rec1 (v5_0.1, v5_0.2.1, (IntKind.wrap .i64 (v5_0.2.2 + 1))))) ((CV.toL c66)) ((CV.toL c68)))))
else
K (true))
def f16_L1 {X : Type} (k : Nat) (K : Bool → Option X)  (rec1 : (List CV) × (List CV) × Int → Option X) (v : (List CV) × (List CV) × Int) : Option X := f16_T1 k K   rec1 v
set_option maxRecDepth 100000 in
theorem f16_L1_ev {X : Type} (k : Nat) (K : Out → Option X)  (r1 : St → Option X) (v : (List CV) × (List CV) × Int) : loopB (f16_cx k) k [.r, .r, .l, .r, .b] (Try.f16.body.getD .skip) (retK (f16_cx k) [] Try.f16.results.toList K) [] r1 (f16_S1 v) = f16_T1 k (fun u => K (f16_out u))   (fun v => r1 (f16_S1 v)) v := by kernel_rfl
theorem f16_L1_it {X : Type} (k : Nat) (K : Out → Option X)  : (fun v => iter (loopB (f16_cx k) k [.r, .r, .l, .r, .b] (Try.f16.body.getD .skip) (retK (f16_cx k) [] Try.f16.results.toList K) []) k (f16_S1 v)) = iterV (f16_L1 k (fun u => K (f16_out u)) ) k :=
  iter_map (fun r1 v => (f16_L1_ev k K  r1 v).trans rfl) k
def f16_T {X : Type} (k : Nat) (K : Bool → Option X) (loop1 : (List CV) × (List CV) × Int → Option X) (x0 : List CV) (x1 : List CV) : Option X :=
(bif ((Nat.cast ((List.length x0)) : Int) != (Nat.cast ((List.length x1)) : Int)) then
K (false)
else
loop1 (x0, x1, 0))
/-- "outpost/outpostref12.Same" -/
def f16 {X : Type} (k : Nat) (K : Bool → Option X) (x0 : List CV) (x1 : List CV) : Option X := f16_T k K (iterV (f16_L1 k K) k) x0 x1
set_option maxRecDepth 100000 in
theorem f16_ev' {X : Type} (k : Nat) (K : Out → Option X) (x0 : List CV) (x1 : List CV) : evFn (f16_cx k) [] k Try.f16.ntmps Try.f16.results.toList (Try.f16.body.getD .skip) [(.sl false (some 4) x0), (.sl false (some 4) x1)] [] K = f16_T k (fun u => K (f16_out u)) (fun v => iter (loopB (f16_cx k) k [.r, .r, .l, .r, .b] (Try.f16.body.getD .skip) (retK (f16_cx k) [] Try.f16.results.toList K) []) k (f16_S1 v)) x0 x1 := by kernel_rfl
theorem f16_ev {X : Type} (k : Nat) (K : Out → Option X) (x0 : List CV) (x1 : List CV) : evFn (f16_cx k) [] k Try.f16.ntmps Try.f16.results.toList (Try.f16.body.getD .skip) [(.sl false (some 4) x0), (.sl false (some 4) x1)] [] K = f16 k (fun u => K (f16_out u)) x0 x1 := (f16_ev' k K x0 x1).trans (by rw [f16_L1_it k K]; rfl)
def f16_c (k : Nat) : FnC := fun X xs ns K => match xs, ns with
  | [(.sl false (some 4) x0), (.sl false (some 4) x1)], [] => f16 k (fun u => K (f16_out u)) x0 x1
  | _, _ => none
theorem f16_ok (k : Nat) : AnsOk Try.prog 16 (f16_c k) := by
  intro X xs ns K x h
  unfold f16_c at h ⊢
  split at h
  · exact ans_main S (f16_Cok k) Try.func16 (ent_of Try.func16 (by kernel_rfl) rfl) rfl (fun X K => f16_ev k K _ _) h
  · cases h
def f4_plan : Nat → Option (List Nat × List Wk)
  | 0 => some ([0, 1], [])
  | 1 => some ([0, 1], [])
  | 2 => some ([], [])
  | 3 => some ([0, 1], [])
  | 4 => some ([], [])
  | 5 => some ([0, 1], [])
  | 6 => some ([0, 1, 5, 6], [])
  | 7 => some ([1, 5, 6, 31, 32, 33], [])
  | 8 => some ([1, 5, 6, 31, 32, 33], [])
  | 9 => some ([1, 5, 6, 8, 31, 32, 33], [])
  | 10 => some ([1, 5, 6, 8, 9, 31, 32, 33], [])
  | 11 => some ([1, 5, 6, 8, 9, 31, 32, 33], [])
  | 12 => some ([1, 5, 6, 31, 32, 33], [])
  | 13 => some ([1, 5, 6], [])
  | 14 => some ([1, 5, 6, 10], [])
  | 15 => some ([1, 5, 6, 10, 11], [])
  | 16 => some ([5, 6, 10, 11, 64, 65, 66], [])
  | 17 => some ([5, 6, 10, 11, 64, 65, 66], [])
  | 18 => some ([5, 6, 10, 11, 13, 64, 65, 66], [])
  | 19 => some ([5, 6, 10, 11, 64, 65, 66], [])
  | 20 => some ([5, 6, 10, 11, 64, 65, 66], [])
  | 21 => some ([5, 6, 10, 11], [])
  | _ => none
def f4_C (k : Nat) : Fns := (orC 7 (f7_c k) (orC 8 (f8_c k) (orC 10 (f10_c k) (orC 11 (f11_c k) (orC 15 (f15_c k) (orC 16 (f16_c k) (orC 17 (f17_c k) (orC 18 (f18_c k) noC))))))))
theorem f4_Cok (k : Nat) : CsOk Try.prog (f4_C k) := (orC_ok (f7_ok k) (orC_ok (f8_ok k) (orC_ok (f10_ok k) (orC_ok (f11_ok k) (orC_ok (f15_ok k) (orC_ok (f16_ok k) (orC_ok (f17_ok k) (orC_ok (f18_ok k) noC_ok))))))))
def f4_cx (k : Nat) : Cx := mkCx (tabOf rows) (f4_C k) md f4_plan (f4_Cok k)
def f4_out (u : Bool) : Out := ⟨(.v (CV.bool u)), []⟩
def f4_S1 (v : (List CV) × (List CV) × Int × Int × Nat × Int × (List CV) × Nat × Int × (List CV)) : St := ⟨[.undef, (.sl true none v.1), .undef, .undef, .undef, (.ptr [29] 0 0 0), (.ptr [30] 0 0 0), .undef, .undef, .undef, .undef, .undef, .undef, .undef, .undef, .undef, .undef, .undef, .undef, .undef, .undef, .undef, .undef, .undef, .undef, .undef, .undef, .undef, .undef, .undef, .undef, (.sl true (some 6) v.2.1), (.v (CV.int .i64 v.2.2.1)), (.v (CV.int .i64 v.2.2.2.1)), .undef, .undef, .undef, .undef, .undef, .undef, .undef, .undef, .undef, .undef, .undef, .undef, .undef, .undef, .undef, .undef, .undef, .undef, .undef, .undef, .undef, .undef, .undef, .undef, .undef, .undef, .undef, .undef, .undef, .undef, .undef, .undef, .undef, .undef, .undef, .undef, .undef, .undef, .undef, .undef, .undef, .undef, .undef, .undef, .undef, .undef, .undef, .undef, .undef, .undef, .undef, .undef, .undef, .undef, .undef, .undef, .undef, .undef, .undef, .undef], [([29], (.obj [(.osl [0, 29] (some 6) 0 v.2.2.2.2.1), (.v (CV.int .i64 v.2.2.2.2.2.1))])), ([0, 29], (.row false (some 6) v.2.2.2.2.2.2.1)), ([30], (.obj [(.osl [0, 30] (some 6) 0 v.2.2.2.2.2.2.2.1), (.v (CV.int .i64 v.2.2.2.2.2.2.2.2.1))])), ([0, 30], (.row false (some 6) v.2.2.2.2.2.2.2.2.2))]⟩
def f4_S2 (v : Nat × Int × (List CV) × Int × Int × (List CV) × Nat × Int × (List CV) × Nat × Int × (List CV)) : St := ⟨[.undef, .undef, .undef, .undef, .undef, (.ptr [29] 0 0 0), (.ptr [30] 0 0 0), .undef, .undef, .undef, (.osl [10] (some 4) 0 v.1), (.v (CV.int .i64 v.2.1)), .undef, .undef, .undef, .undef, .undef, .undef, .undef, .undef, .undef, .undef, .undef, .undef, .undef, .undef, .undef, .undef, .undef, .undef, .undef, .undef, .undef, .undef, .undef, .undef, .undef, .undef, .undef, .undef, .undef, .undef, .undef, .undef, .undef, .undef, .undef, .undef, .undef, .undef, .undef, .undef, .undef, .undef, .undef, .undef, .undef, .undef, .undef, .undef, .undef, .undef, .undef, .undef, (.sl true none v.2.2.1), (.v (CV.int .i64 v.2.2.2.1)), (.v (CV.int .i64 v.2.2.2.2.1)), .undef, .undef, .undef, .undef, .undef, .undef, .undef, .undef, .undef, .undef, .undef, .undef, .undef, .undef, .undef, .undef, .undef, .undef, .undef, .undef, .undef, .undef, .undef, .undef, .undef, .undef, .undef], [([10], (.row false (some 4) v.2.2.2.2.2.1)), ([29], (.obj [(.osl [0, 29] (some 6) 0 v.2.2.2.2.2.2.1), (.v (CV.int .i64 v.2.2.2.2.2.2.2.1))])), ([0, 29], (.row false (some 6) v.2.2.2.2.2.2.2.2.1)), ([30], (.obj [(.osl [0, 30] (some 6) 0 v.2.2.2.2.2.2.2.2.2.1), (.v (CV.int .i64 v.2.2.2.2.2.2.2.2.2.2.1))])), ([0, 30], (.row false (some 6) v.2.2.2.2.2.2.2.2.2.2.2))]⟩
def f4_T2 {X : Type} (k : Nat) (K : Bool → Option X)   (rec2 : Nat × Int × (List CV) × Int × Int × (List CV) × Nat × Int × (List CV) × Nat × Int × (List CV) → Option X) (v10_19 : Nat × Int × (List CV) × Int × Int × (List CV) × Nat × Int × (List CV) × Nat × Int × (List CV)) : Option X :=
(bif (decide (v10_19.2.2.2.2.1 < v10_19.2.2.2.1)) then
grd (decide (0 ≤ v10_19.2.2.2.2.1)) <|
Option.bind (v10_19.2.2.1)[(Int.toNat v10_19.2.2.2.2.1)]? fun e27 =>
grd (CV.isI .i64 e27) <|
f11 k (fun u28 =>
grd (decide ((v10_19.1 + (List.length (List.take u28.1 (List.drop 0 u28.2.2.2.2)))) * 48 ≤ 140737488355328)) <|
rec2 ((v10_19.1 + (List.length (List.take u28.1 (List.drop 0 u28.2.2.2.2)))), (IntKind.wrap .i64 (v10_19.2.1 + (bop .and .i64 (CV.toI e27) 511))), v10_19.2.2.1, v10_19.2.2.2.1, (IntKind.wrap .i64 (v10_19.2.2.2.2.1 + 1)), ((List.take v10_19.1 v10_19.2.2.2.2.2.1) ++ (List.take u28.1 (List.drop 0 u28.2.2.2.2))), u28.2.1, u28.2.2.1, u28.2.2.2.1, v10_19.2.2.2.2.2.2.2.2.2.1, v10_19.2.2.2.2.2.2.2.2.2.2.1, v10_19.2.2.2.2.2.2.2.2.2.2.2)) ((IntKind.wrap .i64 (v10_19.2.1 + (bop .and .i64 (CV.toI e27) 511)))) (v10_19.2.2.2.2.2.2.1) (v10_19.2.2.2.2.2.2.2.1) (v10_19.2.2.2.2.2.2.2.2.1)
else
f17 k (fun u29 =>
f11 k (fun u30 =>
f17 k (fun u31 =>
f16 k (fun u32 =>
(bif u32 then
f18 k (fun u33 =>
f18 k (fun u34 =>
K ((u33.1 == u34.1))) (u30.2.1) (u30.2.2.1) (u30.2.2.2.1)) (v10_19.2.2.2.2.2.2.1) (v10_19.2.2.2.2.2.2.2.1) (v10_19.2.2.2.2.2.2.2.2.1)
else
K (false))) ((List.take u29.1 (List.drop 0 u29.2))) ((List.take u31.1 (List.drop 0 u31.2)))) ((List.take u30.1 (List.drop 0 u30.2.2.2.2)))) (v10_19.2.1) (v10_19.2.2.2.2.2.2.2.2.2.1) (v10_19.2.2.2.2.2.2.2.2.2.2.1) (v10_19.2.2.2.2.2.2.2.2.2.2.2)) ((List.take v10_19.1 (List.drop 0 v10_19.2.2.2.2.2.1))))
def f4_L2 {X : Type} (k : Nat) (K : Bool → Option X)  (rec2 : Nat × Int × (List CV) × Int × Int × (List CV) × Nat × Int × (List CV) × Nat × Int × (List CV) → Option X) (v : Nat × Int × (List CV) × Int × Int × (List CV) × Nat × Int × (List CV) × Nat × Int × (List CV)) : Option X := f4_T2 k K   rec2 v
set_option maxRecDepth 100000 in
theorem f4_L2_ev {X : Type} (k : Nat) (K : Out → Option X)  (r2 : St → Option X) (v : Nat × Int × (List CV) × Int × Int × (List CV) × Nat × Int × (List CV) × Nat × Int × (List CV)) : loopB (f4_cx k) k [.r, .r, .r, .r, .r, .r, .r, .l, .r, .b] (Try.f4.body.getD .skip) (retK (f4_cx k) [] Try.f4.results.toList K) [] r2 (f4_S2 v) = f4_T2 k (fun u => K (f4_out u))   (fun v => r2 (f4_S2 v)) v := by kernel_rfl
theorem f4_L2_it {X : Type} (k : Nat) (K : Out → Option X)  : (fun v => iter (loopB (f4_cx k) k [.r, .r, .r, .r, .r, .r, .r, .l, .r, .b] (Try.f4.body.getD .skip) (retK (f4_cx k) [] Try.f4.results.toList K) []) k (f4_S2 v)) = iterV (f4_L2 k (fun u => K (f4_out u)) ) k :=
  iter_map (fun r2 v => (f4_L2_ev k K  r2 v).trans rfl) k
def f4_T1 {X : Type} (k : Nat) (K : Bool → Option X)  (loop2 : Nat × Int × (List CV) × Int × Int × (List CV) × Nat × Int × (List CV) × Nat × Int × (List CV) → Option X) (rec1 : (List CV) × (List CV) × Int × Int × Nat × Int × (List CV) × Nat × Int × (List CV) → Option X) (v7_6 : (List CV) × (List CV) × Int × Int × Nat × Int × (List CV) × Nat × Int × (List CV)) : Option X :=
(bif (decide (v7_6.2.2.2.1 < v7_6.2.2.1)) then
grd (decide (0 ≤ v7_6.2.2.2.1)) <|
Option.bind (v7_6.2.1)[(Int.toNat v7_6.2.2.2.1)]? fun e17 =>
grd (CV.isA 6 e17) <|
grd (CV.isI .i64 (CV.cellD 0 e17)) <|
grd (CV.isI .i64 (CV.cellD 1 e17)) <|
grd (CV.isI .i64 (CV.cellD 2 e17)) <|
grd (CV.isL none (CV.cellD 3 e17)) <|
grd (CV.isI .i64 (CV.cellD 4 e17)) <|
grd (CV.isI .i64 (CV.cellD 5 e17)) <|
f10 k (fun u18 =>
f10 k (fun u19 =>
rec1 (v7_6.1, v7_6.2.1, v7_6.2.2.1, (IntKind.wrap .i64 (v7_6.2.2.2.1 + 1)), u18.2.1, u18.2.2.1, u18.2.2.2, u19.2.1, u19.2.2.1, u19.2.2.2)) ((CV.toI (CV.cellD 1 e17))) ((CV.toI (CV.cellD 2 e17))) ((CV.toL (CV.cellD 3 e17))) ((bop .and .i64 (CV.toI (CV.cellD 4 e17)) 1023)) ((CV.toI (CV.cellD 5 e17))) (v7_6.2.2.2.2.2.2.2.1) (v7_6.2.2.2.2.2.2.2.2.1) (v7_6.2.2.2.2.2.2.2.2.2)) ((CV.toI (CV.cellD 1 e17))) ((CV.toI (CV.cellD 2 e17))) ((CV.toL (CV.cellD 3 e17))) ((bop .and .i64 (CV.toI (CV.cellD 4 e17)) 1023)) ((CV.toI (CV.cellD 5 e17))) (v7_6.2.2.2.2.1) (v7_6.2.2.2.2.2.1) (v7_6.2.2.2.2.2.2.1)
else
loop2 (0, 0, v7_6.1, (Nat.cast ((List.length v7_6.1)) : Int), 0, [], v7_6.2.2.2.2.1, v7_6.2.2.2.2.2.1, v7_6.2.2.2.2.2.2.1, v7_6.2.2.2.2.2.2.2.1, v7_6.2.2.2.2.2.2.2.2.1, v7_6.2.2.2.2.2.2.2.2.2))
def f4_L1 {X : Type} (k : Nat) (K : Bool → Option X)  (rec1 : (List CV) × (List CV) × Int × Int × Nat × Int × (List CV) × Nat × Int × (List CV) → Option X) (v : (List CV) × (List CV) × Int × Int × Nat × Int × (List CV) × Nat × Int × (List CV)) : Option X := f4_T1 k K  (iterV (f4_L2 k K ) k) rec1 v
set_option maxRecDepth 100000 in
theorem f4_L1_ev {X : Type} (k : Nat) (K : Out → Option X)  (r1 : St → Option X) (v : (List CV) × (List CV) × Int × Int × Nat × Int × (List CV) × Nat × Int × (List CV)) : loopB (f4_cx k) k [.r, .r, .r, .r, .l, .r, .b] (Try.f4.body.getD .skip) (retK (f4_cx k) [] Try.f4.results.toList K) [] r1 (f4_S1 v) = f4_T1 k (fun u => K (f4_out u))  (fun v => iter (loopB (f4_cx k) k [.r, .r, .r, .r, .r, .r, .r, .l, .r, .b] (Try.f4.body.getD .skip) (retK (f4_cx k) [] Try.f4.results.toList K) []) k (f4_S2 v)) (fun v => r1 (f4_S1 v)) v := by kernel_rfl
theorem f4_L1_it {X : Type} (k : Nat) (K : Out → Option X)  : (fun v => iter (loopB (f4_cx k) k [.r, .r, .r, .r, .l, .r, .b] (Try.f4.body.getD .skip) (retK (f4_cx k) [] Try.f4.results.toList K) []) k (f4_S1 v)) = iterV (f4_L1 k (fun u => K (f4_out u)) ) k :=
  iter_map (fun r1 v => (f4_L1_ev k K  r1 v).trans (by rw [f4_L2_it k K ]; rfl)) k
def f4_T {X : Type} (k : Nat) (K : Bool → Option X) (loop1 : (List CV) × (List CV) × Int × Int × Nat × Int × (List CV) × Nat × Int × (List CV) → Option X) (x0 : List CV) (x1 : List CV) : Option X :=
f7 k (fun u2 =>
(bif (!u2) then
K (false)
else
f15 k (fun u4 =>
(bif (!u4) then
K (true)
else
(bif (decide ((Nat.cast ((List.length x1)) : Int) > 10)) then
K (true)
else
(bif ((Nat.cast ((List.length x1)) : Int) == 0) then
K (true)
else
f8 k (fun u5 =>
f8 k (fun u6 =>
loop1 (x1, x0, (Nat.cast ((List.length x0)) : Int), 0, 0, 0, u5, 0, 0, u6)) ) )))) (x0))) 
/-- "outpost/outpostlaw12.ExchSteps" -/
def f4 {X : Type} (k : Nat) (K : Bool → Option X) (x0 : List CV) (x1 : List CV) : Option X := f4_T k K (iterV (f4_L1 k K) k) x0 x1
set_option maxRecDepth 100000 in
theorem f4_ev' {X : Type} (k : Nat) (K : Out → Option X) (x0 : List CV) (x1 : List CV) : evFn (f4_cx k) [] k Try.f4.ntmps Try.f4.results.toList (Try.f4.body.getD .skip) [(.sl true (some 6) x0), (.sl true none x1)] [] K = f4_T k (fun u => K (f4_out u)) (fun v => iter (loopB (f4_cx k) k [.r, .r, .r, .r, .l, .r, .b] (Try.f4.body.getD .skip) (retK (f4_cx k) [] Try.f4.results.toList K) []) k (f4_S1 v)) x0 x1 := by kernel_rfl
theorem f4_ev {X : Type} (k : Nat) (K : Out → Option X) (x0 : List CV) (x1 : List CV) : evFn (f4_cx k) [] k Try.f4.ntmps Try.f4.results.toList (Try.f4.body.getD .skip) [(.sl true (some 6) x0), (.sl true none x1)] [] K = f4 k (fun u => K (f4_out u)) x0 x1 := (f4_ev' k K x0 x1).trans (by rw [f4_L1_it k K]; rfl)
def f4_c (k : Nat) : FnC := fun X xs ns K => match xs, ns with
  | [(.sl true (some 6) x0), (.sl true none x1)], [] => f4 k (fun u => K (f4_out u)) x0 x1
  | _, _ => none
theorem f4_ok (k : Nat) : AnsOk Try.prog 4 (f4_c k) := by
  intro X xs ns K x h
  unfold f4_c at h ⊢
  split at h
  · exact ans_main S (f4_Cok k) Try.func4 (ent_of Try.func4 (by kernel_rfl) rfl) rfl (fun X K => f4_ev k K _ _) h
  · cases h
def f5_plan : Nat → Option (List Nat × List Wk)
  | 0 => some ([0], [])
  | 1 => some ([0], [])
  | 2 => some ([], [])
  | 3 => some ([0], [])
  | 4 => some ([], [])
  | 5 => some ([0], [])
  | 6 => some ([0, 3], [])
  | 7 => some ([3, 16, 17, 18], [])
  | 8 => some ([3, 16, 17, 18], [])
  | 9 => some ([3, 5, 16, 17, 18], [])
  | 10 => some ([3, 16, 17, 18], [])
  | 11 => some ([3], [])
  | 12 => some ([3], [])
  | 13 => some ([3, 38], [])
  | 14 => some ([3, 38], [])
  | 15 => some ([3, 6, 7, 38], [])
  | 16 => some ([3], [])
  | 17 => some ([3, 6, 38], [])
  | 18 => some ([], [])
  | 19 => some ([3, 6, 38], [])
  | 20 => some ([3, 6, 8, 9, 38], [])
  | 21 => some ([], [])
  | 22 => some ([3, 38], [])
  | 23 => some ([3], [])
  | _ => none
def f5_C (k : Nat) : Fns := (orC 7 (f7_c k) (orC 8 (f8_c k) (orC 10 (f10_c k) (orC 11 (f11_c k) (orC 15 (f15_c k) (orC 18 (f18_c k) (orC 19 (f19_c k) noC)))))))
theorem f5_Cok (k : Nat) : CsOk Try.prog (f5_C k) := (orC_ok (f7_ok k) (orC_ok (f8_ok k) (orC_ok (f10_ok k) (orC_ok (f11_ok k) (orC_ok (f15_ok k) (orC_ok (f18_ok k) (orC_ok (f19_ok k) noC_ok)))))))
def f5_cx (k : Nat) : Cx := mkCx (tabOf rows) (f5_C k) md f5_plan (f5_Cok k)
def f5_out (u : Bool) : Out := ⟨(.v (CV.bool u)), []⟩
def f5_S1 (v : (List CV) × Int × Int × Nat × Int × (List CV)) : St := ⟨[.undef, .undef, .undef, (.ptr [15] 0 0 0), .undef, .undef, .undef, .undef, .undef, .undef, .undef, .undef, .undef, .undef, .undef, .undef, (.sl true (some 6) v.1), (.v (CV.int .i64 v.2.1)), (.v (CV.int .i64 v.2.2.1)), .undef, .undef, .undef, .undef, .undef, .undef, .undef, .undef, .undef, .undef, .undef, .undef, .undef, .undef, .undef, .undef, .undef, .undef, .undef, .undef, .undef, .undef, .undef, .undef, .undef, .undef, .undef, .undef, .undef, .undef, .undef, .undef, .undef, .undef, .undef, .undef, .undef, .undef, .undef, .undef, .undef, .undef, .undef, .undef, .undef, .undef, .undef, .undef, .undef, .undef, .undef, .undef, .undef, .undef, .undef, .undef, .undef, .undef, .undef, .undef, .undef, .undef, .undef, .undef, .undef, .undef, .undef, .undef], [([15], (.obj [(.osl [0, 15] (some 6) 0 v.2.2.2.1), (.v (CV.int .i64 v.2.2.2.2.1))])), ([0, 15], (.row false (some 6) v.2.2.2.2.2))]⟩
def f5_S2 (v : Int × Nat × Int × (List CV)) : St := ⟨[.undef, .undef, .undef, (.ptr [15] 0 0 0), .undef, .undef, .undef, .undef, .undef, .undef, .undef, .undef, .undef, .undef, .undef, .undef, .undef, .undef, .undef, .undef, .undef, .undef, .undef, .undef, .undef, .undef, .undef, .undef, .undef, .undef, .undef, .undef, .undef, .undef, .undef, .undef, .undef, .undef, (.v (CV.int .i64 v.1)), .undef, .undef, .undef, .undef, .undef, .undef, .undef, .undef, .undef, .undef, .undef, .undef, .undef, .undef, .undef, .undef, .undef, .undef, .undef, .undef, .undef, .undef, .undef, .undef, .undef, .undef, .undef, .undef, .undef, .undef, .undef, .undef, .undef, .undef, .undef, .undef, .undef, .undef, .undef, .undef, .undef, .undef, .undef, .undef, .undef, .undef, .undef, .undef], [([15], (.obj [(.osl [0, 15] (some 6) 0 v.2.1), (.v (CV.int .i64 v.2.2.1))])), ([0, 15], (.row false (some 6) v.2.2.2))]⟩
def f5_J1 {X : Type} (k : Nat) (K : Bool → Option X) (rec2 : Int × Nat × Int × (List CV) → Option X) (v9_15 : Int × Nat × Int × (List CV)) (v59 : Nat × Int × (List CV)) : Option X :=
rec2 ((IntKind.wrap .i64 (v9_15.1 + 1)), v59.1, v59.2.1, v59.2.2)
def f5_J2 {X : Type} (k : Nat) (K : Bool → Option X) (rec2 : Int × Nat × Int × (List CV) → Option X) (u60 : Int × Bool × Nat × Int × (List CV)) (v9_15 : Int × Nat × Int × (List CV)) (v68 : Nat × Int × (List CV)) : Option X :=
f19 k (fun u69 =>
(bif u69.2.1 then
(bif (decide (u69.1 ≤ u60.1)) then
K (false)
else
f5_J1 k K rec2 v9_15 (u69.2.2.1, u69.2.2.2.1, u69.2.2.2.2))
else
f5_J1 k K rec2 v9_15 (u69.2.2.1, u69.2.2.2.1, u69.2.2.2.2))) (v68.1) (v68.2.1) (v68.2.2)
def f5_T2 {X : Type} (k : Nat) (K : Bool → Option X)   (rec2 : Int × Nat × Int × (List CV) → Option X) (v9_15 : Int × Nat × Int × (List CV)) : Option X :=
(bif (decide (v9_15.1 < 30)) then
f19 k (fun u60 =>
(bif (!u60.2.1) then
f18 k (fun u62 =>
K ((u62.1 == 0))) (u60.2.2.1) (u60.2.2.2.1) (u60.2.2.2.2)
else
(bif (decide (u60.1 ≤ 1024)) then
f18 k (fun u70 =>
(bif (decide (u70.1 > 0)) then
K (false)
else
f11 k (fun u71 =>
(bif ((Nat.cast (u71.1) : Int) != 0) then
K (false)
else
f11 k (fun u72 =>
(bif ((Nat.cast (u72.1) : Int) == 0) then
K (false)
else
f5_J2 k K rec2 u60 v9_15 (u72.2.1, u72.2.2.1, u72.2.2.2.1))) (u60.1) (u71.2.1) (u71.2.2.1) (u71.2.2.2.1))) ((IntKind.wrap .i64 (u60.1 - 1))) (u70.2.1) (u70.2.2.1) (u70.2.2.2))) (u60.2.2.1) (u60.2.2.2.1) (u60.2.2.2.2)
else
f11 k (fun u73 =>
(bif ((Nat.cast (u73.1) : Int) != 0) then
K (false)
else
f11 k (fun u74 =>
(bif ((Nat.cast (u74.1) : Int) == 0) then
K (false)
else
f5_J2 k K rec2 u60 v9_15 (u74.2.1, u74.2.2.1, u74.2.2.2.1))) (u60.1) (u73.2.1) (u73.2.2.1) (u73.2.2.2.1))) ((IntKind.wrap .i64 (u60.1 - 1))) (u60.2.2.1) (u60.2.2.2.1) (u60.2.2.2.2)))) (v9_15.2.1) (v9_15.2.2.1) (v9_15.2.2.2)
else
f18 k (fun u75 =>
K ((u75.1 == 0))) (v9_15.2.1) (v9_15.2.2.1) (v9_15.2.2.2))
def f5_L2 {X : Type} (k : Nat) (K : Bool → Option X)  (rec2 : Int × Nat × Int × (List CV) → Option X) (v : Int × Nat × Int × (List CV)) : Option X := f5_T2 k K   rec2 v
set_option maxRecDepth 100000 in
theorem f5_L2_ev {X : Type} (k : Nat) (K : Out → Option X)  (r2 : St → Option X) (v : Int × Nat × Int × (List CV)) : loopB (f5_cx k) k [.r, .r, .r, .r, .r, .r, .l, .r, .b] (Try.f5.body.getD .skip) (retK (f5_cx k) [] Try.f5.results.toList K) [] r2 (f5_S2 v) = f5_T2 k (fun u => K (f5_out u))   (fun v => r2 (f5_S2 v)) v := by kernel_rfl
theorem f5_L2_it {X : Type} (k : Nat) (K : Out → Option X)  : (fun v => iter (loopB (f5_cx k) k [.r, .r, .r, .r, .r, .r, .l, .r, .b] (Try.f5.body.getD .skip) (retK (f5_cx k) [] Try.f5.results.toList K) []) k (f5_S2 v)) = iterV (f5_L2 k (fun u => K (f5_out u)) ) k :=
  iter_map (fun r2 v => (f5_L2_ev k K  r2 v).trans rfl) k
def f5_T1 {X : Type} (k : Nat) (K : Bool → Option X)  (loop2 : Int × Nat × Int × (List CV) → Option X) (rec1 : (List CV) × Int × Int × Nat × Int × (List CV) → Option X) (v7_5 : (List CV) × Int × Int × Nat × Int × (List CV)) : Option X :=
(bif (decide (v7_5.2.2.1 < v7_5.2.1)) then
grd (decide (0 ≤ v7_5.2.2.1)) <|
Option.bind (v7_5.1)[(Int.toNat v7_5.2.2.1)]? fun e13 =>
grd (CV.isA 6 e13) <|
grd (CV.isI .i64 (CV.cellD 0 e13)) <|
grd (CV.isI .i64 (CV.cellD 1 e13)) <|
grd (CV.isI .i64 (CV.cellD 2 e13)) <|
grd (CV.isL none (CV.cellD 3 e13)) <|
grd (CV.isI .i64 (CV.cellD 4 e13)) <|
grd (CV.isI .i64 (CV.cellD 5 e13)) <|
f10 k (fun u14 =>
rec1 (v7_5.1, v7_5.2.1, (IntKind.wrap .i64 (v7_5.2.2.1 + 1)), u14.2.1, u14.2.2.1, u14.2.2.2)) ((CV.toI (CV.cellD 1 e13))) ((CV.toI (CV.cellD 2 e13))) ((CV.toL (CV.cellD 3 e13))) ((bop .and .i64 (CV.toI (CV.cellD 4 e13)) 1023)) ((CV.toI (CV.cellD 5 e13))) (v7_5.2.2.2.1) (v7_5.2.2.2.2.1) (v7_5.2.2.2.2.2)
else
f11 k (fun u15 =>
loop2 (0, u15.2.1, u15.2.2.1, u15.2.2.2.1)) (1024) (v7_5.2.2.2.1) (v7_5.2.2.2.2.1) (v7_5.2.2.2.2.2))
def f5_L1 {X : Type} (k : Nat) (K : Bool → Option X)  (rec1 : (List CV) × Int × Int × Nat × Int × (List CV) → Option X) (v : (List CV) × Int × Int × Nat × Int × (List CV)) : Option X := f5_T1 k K  (iterV (f5_L2 k K ) k) rec1 v
set_option maxRecDepth 100000 in
theorem f5_L1_ev {X : Type} (k : Nat) (K : Out → Option X)  (r1 : St → Option X) (v : (List CV) × Int × Int × Nat × Int × (List CV)) : loopB (f5_cx k) k [.r, .r, .r, .r, .l, .r, .b] (Try.f5.body.getD .skip) (retK (f5_cx k) [] Try.f5.results.toList K) [] r1 (f5_S1 v) = f5_T1 k (fun u => K (f5_out u))  (fun v => iter (loopB (f5_cx k) k [.r, .r, .r, .r, .r, .r, .l, .r, .b] (Try.f5.body.getD .skip) (retK (f5_cx k) [] Try.f5.results.toList K) []) k (f5_S2 v)) (fun v => r1 (f5_S1 v)) v := by kernel_rfl
theorem f5_L1_it {X : Type} (k : Nat) (K : Out → Option X)  : (fun v => iter (loopB (f5_cx k) k [.r, .r, .r, .r, .l, .r, .b] (Try.f5.body.getD .skip) (retK (f5_cx k) [] Try.f5.results.toList K) []) k (f5_S1 v)) = iterV (f5_L1 k (fun u => K (f5_out u)) ) k :=
  iter_map (fun r1 v => (f5_L1_ev k K  r1 v).trans (by rw [f5_L2_it k K ]; rfl)) k
def f5_T {X : Type} (k : Nat) (K : Bool → Option X) (loop1 : (List CV) × Int × Int × Nat × Int × (List CV) → Option X) (x0 : List CV) : Option X :=
f7 k (fun u2 =>
(bif (!u2) then
K (false)
else
f15 k (fun u4 =>
(bif (!u4) then
K (true)
else
f8 k (fun u5 =>
loop1 (x0, (Nat.cast ((List.length x0)) : Int), 0, 0, 0, u5)) )) (x0))) 
/-- "outpost/outpostlaw12.ExchNext" -/
def f5 {X : Type} (k : Nat) (K : Bool → Option X) (x0 : List CV) : Option X := f5_T k K (iterV (f5_L1 k K) k) x0
set_option maxRecDepth 100000 in
theorem f5_ev' {X : Type} (k : Nat) (K : Out → Option X) (x0 : List CV) : evFn (f5_cx k) [] k Try.f5.ntmps Try.f5.results.toList (Try.f5.body.getD .skip) [(.sl true (some 6) x0)] [] K = f5_T k (fun u => K (f5_out u)) (fun v => iter (loopB (f5_cx k) k [.r, .r, .r, .r, .l, .r, .b] (Try.f5.body.getD .skip) (retK (f5_cx k) [] Try.f5.results.toList K) []) k (f5_S1 v)) x0 := by kernel_rfl
theorem f5_ev {X : Type} (k : Nat) (K : Out → Option X) (x0 : List CV) : evFn (f5_cx k) [] k Try.f5.ntmps Try.f5.results.toList (Try.f5.body.getD .skip) [(.sl true (some 6) x0)] [] K = f5 k (fun u => K (f5_out u)) x0 := (f5_ev' k K x0).trans (by rw [f5_L1_it k K]; rfl)
def f5_c (k : Nat) : FnC := fun X xs ns K => match xs, ns with
  | [(.sl true (some 6) x0)], [] => f5 k (fun u => K (f5_out u)) x0
  | _, _ => none
theorem f5_ok (k : Nat) : AnsOk Try.prog 5 (f5_c k) := by
  intro X xs ns K x h
  unfold f5_c at h ⊢
  split at h
  · exact ans_main S (f5_Cok k) Try.func5 (ent_of Try.func5 (by kernel_rfl) rfl) rfl (fun X K => f5_ev k K _) h
  · cases h
def f33_plan : Nat → Option (List Nat × List Wk)
  | 0 => some ([0], [])
  | 1 => some ([0], [])
  | 2 => some ([], [])
  | 3 => some ([0], [])
  | 4 => some ([], [])
  | 5 => some ([0], [])
  | _ => none
def f33_C (k : Nat) : Fns := noC
theorem f33_Cok (k : Nat) : CsOk Try.prog (f33_C k) := noC_ok
def f33_cx (k : Nat) : Cx := mkCx (tabOf rows) (f33_C k) md f33_plan (f33_Cok k)
def f33_out (u : Int) : Out := ⟨(.v (CV.int .i64 u)), []⟩
def f33_T {X : Type} (k : Nat) (K : Int → Option X)  (x0 : Int) : Option X :=
(bif (decide (x0 < 0)) then
K (0)
else
(bif (decide (x0 > 1099511627776)) then
K (1099511627776)
else
K (x0)))
/-- "outpost/outpostref11.Clock" -/
def f33 {X : Type} (k : Nat) (K : Int → Option X) (x0 : Int) : Option X := f33_T k K  x0
set_option maxRecDepth 100000 in
theorem f33_ev' {X : Type} (k : Nat) (K : Out → Option X) (x0 : Int) : evFn (f33_cx k) [] k Try.f33.ntmps Try.f33.results.toList (Try.f33.body.getD .skip) [(.v (CV.int .i64 x0))] [] K = f33_T k (fun u => K (f33_out u)) x0 := by kernel_rfl
theorem f33_ev {X : Type} (k : Nat) (K : Out → Option X) (x0 : Int) : evFn (f33_cx k) [] k Try.f33.ntmps Try.f33.results.toList (Try.f33.body.getD .skip) [(.v (CV.int .i64 x0))] [] K = f33 k (fun u => K (f33_out u)) x0 := (f33_ev' k K x0).trans rfl
def f33_c (k : Nat) : FnC := fun X xs ns K => match xs, ns with
  | [(.v (CV.int .i64 x0))], [] => f33 k (fun u => K (f33_out u)) x0
  | _, _ => none
theorem f33_ok (k : Nat) : AnsOk Try.prog 33 (f33_c k) := by
  intro X xs ns K x h
  unfold f33_c at h ⊢
  split at h
  · exact ans_main S (f33_Cok k) Try.func33 (ent_of Try.func33 (by kernel_rfl) rfl) rfl (fun X K => f33_ev k K _) h
  · cases h
def f32_plan : Nat → Option (List Nat × List Wk)
  | 0 => some ([0, 1], [])
  | 1 => some ([1, 2, 4], [])
  | 2 => some ([1, 2, 4], [])
  | 3 => some ([2, 4], [])
  | _ => none
def f32_C (k : Nat) : Fns := (orC 33 (f33_c k) noC)
theorem f32_Cok (k : Nat) : CsOk Try.prog (f32_C k) := (orC_ok (f33_ok k) noC_ok)
def f32_cx (k : Nat) : Cx := mkCx (tabOf rows) (f32_C k) md f32_plan (f32_Cok k)
def f32_out (u : (List CV) × Int) : Out := ⟨(.agg [(.sl true (some 6) u.1), (.v (CV.int .i64 u.2))]), []⟩
def f32_J1 {X : Type} (k : Nat) (K : (List CV) × Int → Option X) (x0 : CV) (v3 : Int) : Option X :=
K ((CV.toL (CV.cellD 0 x0)), v3)
def f32_T {X : Type} (k : Nat) (K : (List CV) × Int → Option X)  (x0 : CV) (x1 : Int) : Option X :=
grd (CV.isA 2 x0) <|
grd (CV.isL (some 6) (CV.cellD 0 x0)) <|
grd (CV.isI .i64 (CV.cellD 1 x0)) <|
f33 k (fun u4 =>
(bif (decide (u4 > (CV.toI (CV.cellD 1 x0)))) then
f33 k (fun u5 =>
f32_J1 k K x0 (u5)) (x1)
else
f32_J1 k K x0 ((CV.toI (CV.cellD 1 x0))))) (x1)
/-- "outpost/outpostref12.later" -/
def f32 {X : Type} (k : Nat) (K : (List CV) × Int → Option X) (x0 : CV) (x1 : Int) : Option X := f32_T k K  x0 x1
set_option maxRecDepth 100000 in
theorem f32_ev' {X : Type} (k : Nat) (K : Out → Option X) (x0 : CV) (x1 : Int) : evFn (f32_cx k) [] k Try.f32.ntmps Try.f32.results.toList (Try.f32.body.getD .skip) [(.v x0), (.v (CV.int .i64 x1))] [] K = f32_T k (fun u => K (f32_out u)) x0 x1 := by kernel_rfl
theorem f32_ev {X : Type} (k : Nat) (K : Out → Option X) (x0 : CV) (x1 : Int) : evFn (f32_cx k) [] k Try.f32.ntmps Try.f32.results.toList (Try.f32.body.getD .skip) [(.v x0), (.v (CV.int .i64 x1))] [] K = f32 k (fun u => K (f32_out u)) x0 x1 := (f32_ev' k K x0 x1).trans rfl
def f32_c (k : Nat) : FnC := fun X xs ns K => match xs, ns with
  | [(.v x0), (.v (CV.int .i64 x1))], [] => f32 k (fun u => K (f32_out u)) x0 x1
  | _, _ => none
theorem f32_ok (k : Nat) : AnsOk Try.prog 32 (f32_c k) := by
  intro X xs ns K x h
  unfold f32_c at h ⊢
  split at h
  · exact ans_main S (f32_Cok k) Try.func32 (ent_of Try.func32 (by kernel_rfl) rfl) rfl (fun X K => f32_ev k K _ _) h
  · cases h
def f25_plan : Nat → Option (List Nat × List Wk)
  | 0 => some ([0, 1, 2], [])
  | 1 => some ([1, 2, 3], [])
  | 2 => some ([1, 2, 3, 7], [])
  | 3 => some ([1, 2, 3, 7], [])
  | 4 => some ([1, 2, 3, 7], [])
  | 5 => some ([], [])
  | 6 => some ([], [])
  | _ => none
def f25_C (k : Nat) : Fns := noC
theorem f25_Cok (k : Nat) : CsOk Try.prog (f25_C k) := noC_ok
def f25_cx (k : Nat) : Cx := mkCx (tabOf rows) (f25_C k) md f25_plan (f25_Cok k)
def f25_out (u : Bool) : Out := ⟨(.v (CV.bool u)), []⟩
def f25_S1 (v : Int × Int × Int × (List CV) × Int) : St := ⟨[.undef, (.v (CV.int .i64 v.1)), (.v (CV.int .i64 v.2.1)), (.ptr [3] 0 0 0), .undef, .undef, .undef, (.v (CV.int .i64 v.2.2.1)), .undef, .undef, .undef, .undef, .undef, .undef, .undef, .undef, .undef, .undef, .undef, .undef, .undef, .undef, .undef, .undef, .undef, .undef, .undef, .undef, .undef, .undef, .undef, .undef, .undef], [([3], (.obj [(.sl true (some 6) v.2.2.2.1), (.v (CV.int .i64 v.2.2.2.2))]))]⟩
def f25_J1 {X : Type} (k : Nat) (K : Bool → Option X) (rec1 : Int × Int × Int × (List CV) × Int → Option X) (v4_0 : Int × Int × Int × (List CV) × Int) (v14 : Unit) : Option X :=
rec1 (v4_0.1, v4_0.2.1, (IntKind.wrap .i64 (v4_0.2.2.1 + 1)), v4_0.2.2.2.1, v4_0.2.2.2.2)
def f25_T1 {X : Type} (k : Nat) (K : Bool → Option X)   (rec1 : Int × Int × Int × (List CV) × Int → Option X) (v4_0 : Int × Int × Int × (List CV) × Int) : Option X :=
(bif (decide (v4_0.2.2.1 < (Nat.cast ((List.length v4_0.2.2.2.1)) : Int))) then
grd (decide (0 ≤ v4_0.2.2.1)) <|
Option.bind (v4_0.2.2.2.1)[(Int.toNat v4_0.2.2.1)]? fun e15 =>
Option.bind (CV.cell e15 0) fun c16 =>
grd (CV.isI .i64 c16) <|
(bif ((CV.toI c16) == v4_0.1) then
grd (decide (0 ≤ v4_0.2.2.1)) <|
Option.bind (v4_0.2.2.2.1)[(Int.toNat v4_0.2.2.1)]? fun e17 =>
Option.bind (CV.cell e17 1) fun c18 =>
grd (CV.isI .i64 c18) <|
(bif ((CV.toI c18) == v4_0.2.1) then
K (true)
else
f25_J1 k K rec1 v4_0 (()))
else
f25_J1 k K rec1 v4_0 (()))
else
K (false))
def f25_L1 {X : Type} (k : Nat) (K : Bool → Option X)  (rec1 : Int × Int × Int × (List CV) × Int → Option X) (v : Int × Int × Int × (List CV) × Int) : Option X := f25_T1 k K   rec1 v
set_option maxRecDepth 100000 in
theorem f25_L1_ev {X : Type} (k : Nat) (K : Out → Option X)  (r1 : St → Option X) (v : Int × Int × Int × (List CV) × Int) : loopB (f25_cx k) k [.r, .l, .r, .b] (Try.f25.body.getD .skip) (retK (f25_cx k) [] Try.f25.results.toList K) [] r1 (f25_S1 v) = f25_T1 k (fun u => K (f25_out u))   (fun v => r1 (f25_S1 v)) v := by kernel_rfl
theorem f25_L1_it {X : Type} (k : Nat) (K : Out → Option X)  : (fun v => iter (loopB (f25_cx k) k [.r, .l, .r, .b] (Try.f25.body.getD .skip) (retK (f25_cx k) [] Try.f25.results.toList K) []) k (f25_S1 v)) = iterV (f25_L1 k (fun u => K (f25_out u)) ) k :=
  iter_map (fun r1 v => (f25_L1_ev k K  r1 v).trans rfl) k
def f25_T {X : Type} (k : Nat) (K : Bool → Option X) (loop1 : Int × Int × Int × (List CV) × Int → Option X) (x0 : CV) (x1 : Int) (x2 : Int) : Option X :=
grd (CV.isA 2 x0) <|
grd (CV.isL (some 6) (CV.cellD 0 x0)) <|
grd (CV.isI .i64 (CV.cellD 1 x0)) <|
loop1 (x1, x2, 0, (CV.toL (CV.cellD 0 x0)), (CV.toI (CV.cellD 1 x0)))
/-- "outpost/outpostref12.Has" -/
def f25 {X : Type} (k : Nat) (K : Bool → Option X) (x0 : CV) (x1 : Int) (x2 : Int) : Option X := f25_T k K (iterV (f25_L1 k K) k) x0 x1 x2
set_option maxRecDepth 100000 in
theorem f25_ev' {X : Type} (k : Nat) (K : Out → Option X) (x0 : CV) (x1 : Int) (x2 : Int) : evFn (f25_cx k) [] k Try.f25.ntmps Try.f25.results.toList (Try.f25.body.getD .skip) [(.v x0), (.v (CV.int .i64 x1)), (.v (CV.int .i64 x2))] [] K = f25_T k (fun u => K (f25_out u)) (fun v => iter (loopB (f25_cx k) k [.r, .l, .r, .b] (Try.f25.body.getD .skip) (retK (f25_cx k) [] Try.f25.results.toList K) []) k (f25_S1 v)) x0 x1 x2 := by kernel_rfl
theorem f25_ev {X : Type} (k : Nat) (K : Out → Option X) (x0 : CV) (x1 : Int) (x2 : Int) : evFn (f25_cx k) [] k Try.f25.ntmps Try.f25.results.toList (Try.f25.body.getD .skip) [(.v x0), (.v (CV.int .i64 x1)), (.v (CV.int .i64 x2))] [] K = f25 k (fun u => K (f25_out u)) x0 x1 x2 := (f25_ev' k K x0 x1 x2).trans (by rw [f25_L1_it k K]; rfl)
def f25_c (k : Nat) : FnC := fun X xs ns K => match xs, ns with
  | [(.v x0), (.v (CV.int .i64 x1)), (.v (CV.int .i64 x2))], [] => f25 k (fun u => K (f25_out u)) x0 x1 x2
  | _, _ => none
theorem f25_ok (k : Nat) : AnsOk Try.prog 25 (f25_c k) := by
  intro X xs ns K x h
  unfold f25_c at h ⊢
  split at h
  · exact ans_main S (f25_Cok k) Try.func25 (ent_of Try.func25 (by kernel_rfl) rfl) rfl (fun X K => f25_ev k K _ _ _) h
  · cases h
def f20_plan : Nat → Option (List Nat × List Wk)
  | 0 => some ([0, 1, 2, 3, 4, 5], [])
  | 1 => some ([1, 2, 3, 4, 5, 6, 12], [])
  | 2 => some ([1, 2, 3, 5, 6, 12], [])
  | 3 => some ([6, 12], [])
  | 4 => some ([1, 2, 3, 5, 6, 12], [])
  | 5 => some ([6, 12], [])
  | 6 => some ([1, 2, 3, 5, 6, 12], [])
  | 7 => some ([1, 2, 3, 5, 6, 12, 14], [])
  | 8 => some ([1, 2, 3, 5, 6, 12, 14], [])
  | 9 => some ([1, 2, 3, 6, 12, 14], [])
  | 10 => some ([1, 2, 3, 6, 12, 14, 15], [])
  | 11 => some ([1, 2, 3, 6, 12, 14, 15, 16], [])
  | 12 => some ([1, 2, 3, 6, 12, 14, 15, 16], [])
  | 13 => some ([1, 2, 3, 6, 12, 14, 15, 16], [])
  | 14 => some ([1, 2, 3, 6, 12, 14, 15], [])
  | 15 => some ([6, 12], [])
  | _ => none
def f20_C (k : Nat) : Fns := (orC 9 (f9_c k) (orC 25 (f25_c k) (orC 32 (f32_c k) (orC 33 (f33_c k) noC))))
theorem f20_Cok (k : Nat) : CsOk Try.prog (f20_C k) := (orC_ok (f9_ok k) (orC_ok (f25_ok k) (orC_ok (f32_ok k) (orC_ok (f33_ok k) noC_ok))))
def f20_cx (k : Nat) : Cx := mkCx (tabOf rows) (f20_C k) md f20_plan (f20_Cok k)
def f20_out (u : (List CV) × Int × Int) : Out := ⟨(.tup [(.agg [(.sl true (some 6) u.1), (.v (CV.int .i64 u.2.1))]), (.v (CV.int .i64 u.2.2))]), []⟩
def f20_S1 (v : Int × Int × (List CV) × Int × Nat × Int × (List CV) × Int × (List CV)) : St := ⟨[.undef, (.v (CV.int .i64 v.1)), (.v (CV.int .i64 v.2.1)), (.sl false none v.2.2.1), .undef, .undef, (.ptr [6] 0 0 0), .undef, .undef, .undef, .undef, .undef, (.ptr [12] 0 0 0), .undef, (.v (CV.int .i64 v.2.2.2.1)), (.osl [15] (some 6) 0 v.2.2.2.2.1), (.v (CV.int .i64 v.2.2.2.2.2.1)), .undef, .undef, .undef, .undef, .undef, .undef, .undef, .undef, .undef, .undef, .undef, .undef, .undef, .undef, .undef, .undef, .undef, .undef, .undef, .undef, .undef, .undef, .undef, .undef, .undef, .undef, .undef, .undef, .undef, .undef, .undef, .undef, .undef, .undef, .undef, .undef, .undef, .undef, .undef, .undef, .undef, .undef, .undef, .undef, .undef, .undef, .undef, .undef, .undef, .undef, .undef], [([6], (.obj [(.sl true (some 6) v.2.2.2.2.2.2.1), (.v (CV.int .i64 v.2.2.2.2.2.2.2.1))])), ([12], (.obj [(.osl [0, 12] (some 6) 0 0), (.v (CV.int .i64 0))])), ([0, 12], (.row false (some 6) [])), ([15], (.row false (some 6) v.2.2.2.2.2.2.2.2))]⟩
def f20_J1 {X : Type} (k : Nat) (K : (List CV) × Int × Int → Option X) (loop1 : Int × Int × (List CV) × Int × Nat × Int × (List CV) × Int × (List CV) → Option X) (u1 : (List CV) × Int) (x1 : Int) (x2 : Int) (x3 : List CV) (v4 : Int) : Option X :=
loop1 (x1, x2, x3, v4, 0, 0, u1.1, u1.2, [])
def f20_T1 {X : Type} (k : Nat) (K : (List CV) × Int × Int → Option X)   (rec1 : Int × Int × (List CV) × Int × Nat × Int × (List CV) × Int × (List CV) → Option X) (v10_4 : Int × Int × (List CV) × Int × Nat × Int × (List CV) × Int × (List CV)) : Option X :=
(bif (decide (v10_4.2.2.2.2.2.1 < (Nat.cast ((List.length v10_4.2.2.2.2.2.2.1)) : Int))) then
grd (decide (0 ≤ v10_4.2.2.2.2.2.1)) <|
Option.bind (v10_4.2.2.2.2.2.2.1)[(Int.toNat v10_4.2.2.2.2.2.1)]? fun e9 =>
grd (fitSh (some 6) e9) <|
grd (decide ((v10_4.2.2.2.2.1 + (List.length (List.take 1 (List.drop 0 [e9])))) * 64 ≤ 140737488355328)) <|
rec1 (v10_4.1, v10_4.2.1, v10_4.2.2.1, v10_4.2.2.2.1, (v10_4.2.2.2.2.1 + (List.length (List.take 1 (List.drop 0 [e9])))), (IntKind.wrap .i64 (v10_4.2.2.2.2.2.1 + 1)), v10_4.2.2.2.2.2.2.1, v10_4.2.2.2.2.2.2.2.1, ((List.take v10_4.2.2.2.2.1 v10_4.2.2.2.2.2.2.2.2) ++ (List.take 1 (List.drop 0 [e9]))))
else
f9 k (fun u10 =>
f33 k (fun u11 =>
grd (decide ((v10_4.2.2.2.2.1 + (List.length (List.take 1 (List.drop 0 [(CV.agg [(CV.int .i64 v10_4.1), (CV.int .i64 v10_4.2.1), (CV.slc none (List.take u10.1 (List.drop 0 u10.2))), (CV.int .i64 u11), (CV.int .i64 v10_4.2.2.2.1), (CV.int .i64 0)])])))) * 64 ≤ 140737488355328)) <|
K ((List.take (v10_4.2.2.2.2.1 + (List.length (List.take 1 (List.drop 0 [(CV.agg [(CV.int .i64 v10_4.1), (CV.int .i64 v10_4.2.1), (CV.slc none (List.take u10.1 (List.drop 0 u10.2))), (CV.int .i64 u11), (CV.int .i64 v10_4.2.2.2.1), (CV.int .i64 0)])])))) (List.drop 0 ((List.take v10_4.2.2.2.2.1 v10_4.2.2.2.2.2.2.2.2) ++ (List.take 1 (List.drop 0 [(CV.agg [(CV.int .i64 v10_4.1), (CV.int .i64 v10_4.2.1), (CV.slc none (List.take u10.1 (List.drop 0 u10.2))), (CV.int .i64 u11), (CV.int .i64 v10_4.2.2.2.1), (CV.int .i64 0)])]))))), v10_4.2.2.2.2.2.2.2.1, 0)) ((IntKind.wrap .i64 (v10_4.2.2.2.2.2.2.2.1 + v10_4.2.2.2.1)))) (v10_4.2.2.1))
def f20_L1 {X : Type} (k : Nat) (K : (List CV) × Int × Int → Option X)  (rec1 : Int × Int × (List CV) × Int × Nat × Int × (List CV) × Int × (List CV) → Option X) (v : Int × Int × (List CV) × Int × Nat × Int × (List CV) × Int × (List CV)) : Option X := f20_T1 k K   rec1 v
set_option maxRecDepth 100000 in
theorem f20_L1_ev {X : Type} (k : Nat) (K : Out → Option X)  (r1 : St → Option X) (v : Int × Int × (List CV) × Int × Nat × Int × (List CV) × Int × (List CV)) : loopB (f20_cx k) k [.r, .r, .r, .r, .r, .r, .r, .l, .r, .b] (Try.f20.body.getD .skip) (retK (f20_cx k) [⟨0, [0, 0], none⟩] Try.f20.results.toList K) [] r1 (f20_S1 v) = f20_T1 k (fun u => K (f20_out u))   (fun v => r1 (f20_S1 v)) v := by kernel_rfl
theorem f20_L1_it {X : Type} (k : Nat) (K : Out → Option X)  : (fun v => iter (loopB (f20_cx k) k [.r, .r, .r, .r, .r, .r, .r, .l, .r, .b] (Try.f20.body.getD .skip) (retK (f20_cx k) [⟨0, [0, 0], none⟩] Try.f20.results.toList K) []) k (f20_S1 v)) = iterV (f20_L1 k (fun u => K (f20_out u)) ) k :=
  iter_map (fun r1 v => (f20_L1_ev k K  r1 v).trans rfl) k
def f20_T {X : Type} (k : Nat) (K : (List CV) × Int × Int → Option X) (loop1 : Int × Int × (List CV) × Int × Nat × Int × (List CV) × Int × (List CV) → Option X) (x0 : CV) (x1 : Int) (x2 : Int) (x3 : List CV) (x4 : Int) (x5 : Int) : Option X :=
grd (CV.isA 2 x0) <|
grd (CV.isL (some 6) (CV.cellD 0 x0)) <|
grd (CV.isI .i64 (CV.cellD 1 x0)) <|
f32 k (fun u1 =>
f25 k (fun u3 =>
(bif u3 then
K (u1.1, u1.2, 5)
else
(bif (decide ((Nat.cast ((List.length u1.1)) : Int) ≥ 4)) then
K (u1.1, u1.2, 6)
else
(bif (decide (x5 > 0)) then
f20_J1 k K loop1 u1 x1 x2 x3 ((IntKind.wrap .i64 (20 + (Int.tmod x5 11))))
else
f20_J1 k K loop1 u1 x1 x2 x3 (20))))) ((CV.agg [(CV.slc (some 6) u1.1), (CV.int .i64 u1.2)])) (x1) (x2)) ((CV.agg [(CV.slc (some 6) (CV.toL (CV.cellD 0 x0))), (CV.int .i64 (CV.toI (CV.cellD 1 x0)))])) (x4)
/-- "outpost/outpostref12.Start" -/
def f20 {X : Type} (k : Nat) (K : (List CV) × Int × Int → Option X) (x0 : CV) (x1 : Int) (x2 : Int) (x3 : List CV) (x4 : Int) (x5 : Int) : Option X := f20_T k K (iterV (f20_L1 k K) k) x0 x1 x2 x3 x4 x5
set_option maxRecDepth 100000 in
theorem f20_ev' {X : Type} (k : Nat) (K : Out → Option X) (x0 : CV) (x1 : Int) (x2 : Int) (x3 : List CV) (x4 : Int) (x5 : Int) : evFn (f20_cx k) [⟨0, [0, 0], none⟩] k Try.f20.ntmps Try.f20.results.toList (Try.f20.body.getD .skip) [(.v x0), (.v (CV.int .i64 x1)), (.v (CV.int .i64 x2)), (.sl false none x3), (.v (CV.int .i64 x4)), (.v (CV.int .i64 x5))] [] K = f20_T k (fun u => K (f20_out u)) (fun v => iter (loopB (f20_cx k) k [.r, .r, .r, .r, .r, .r, .r, .l, .r, .b] (Try.f20.body.getD .skip) (retK (f20_cx k) [⟨0, [0, 0], none⟩] Try.f20.results.toList K) []) k (f20_S1 v)) x0 x1 x2 x3 x4 x5 := by kernel_rfl
theorem f20_ev {X : Type} (k : Nat) (K : Out → Option X) (x0 : CV) (x1 : Int) (x2 : Int) (x3 : List CV) (x4 : Int) (x5 : Int) : evFn (f20_cx k) [⟨0, [0, 0], none⟩] k Try.f20.ntmps Try.f20.results.toList (Try.f20.body.getD .skip) [(.v x0), (.v (CV.int .i64 x1)), (.v (CV.int .i64 x2)), (.sl false none x3), (.v (CV.int .i64 x4)), (.v (CV.int .i64 x5))] [] K = f20 k (fun u => K (f20_out u)) x0 x1 x2 x3 x4 x5 := (f20_ev' k K x0 x1 x2 x3 x4 x5).trans (by rw [f20_L1_it k K]; rfl)
def f20_c (k : Nat) : FnC := fun X xs ns K => match xs, ns with
  | [(.v x0), (.v (CV.int .i64 x1)), (.v (CV.int .i64 x2)), (.sl false none x3), (.v (CV.int .i64 x4)), (.v (CV.int .i64 x5))], [] => f20 k (fun u => K (f20_out u)) x0 x1 x2 x3 x4 x5
  | _, _ => none
theorem f20_ok (k : Nat) : AnsOk Try.prog 20 (f20_c k) := by
  intro X xs ns K x h
  unfold f20_c at h ⊢
  split at h
  · exact ans_main S (f20_Cok k) Try.func20 (ent_of Try.func20 (by kernel_rfl) rfl) rfl (fun X K => f20_ev k K _ _ _ _ _ _) h
  · cases h
def f21_plan : Nat → Option (List Nat × List Wk)
  | 0 => some ([0, 1, 2], [])
  | 1 => some ([1, 2, 3, 6], [])
  | 2 => some ([1, 2, 3, 6, 8], [])
  | 3 => some ([1, 2, 3, 6, 8, 9], [])
  | 4 => some ([1, 2, 3, 6, 8, 9], [])
  | 5 => some ([1, 2, 3, 6, 8, 9], [])
  | 6 => some ([1, 2, 3, 6, 8, 9], [])
  | 7 => some ([3, 6, 8], [])
  | 8 => some ([3, 6, 8, 10], [])
  | 9 => some ([3, 6, 10], [])
  | _ => none
def f21_C (k : Nat) : Fns := noC
theorem f21_Cok (k : Nat) : CsOk Try.prog (f21_C k) := noC_ok
def f21_cx (k : Nat) : Cx := mkCx (tabOf rows) (f21_C k) md f21_plan (f21_Cok k)
def f21_out (u : Nat × Int × Bool × (List CV)) : Out := ⟨(.tup [(.agg [(.osl [0, 0, 2000] (some 6) 0 u.1), (.v (CV.int .i64 u.2.1))]), (.v (CV.bool u.2.2.1))]), [([0, 0, 2000], (.row false (some 6) u.2.2.2))]⟩
def f21_S1 (v : Int × Int × Nat × Int × (List CV) × Int × (List CV)) : St := ⟨[.undef, (.v (CV.int .i64 v.1)), (.v (CV.int .i64 v.2.1)), (.ptr [3] 0 0 0), .undef, .undef, (.ptr [6] 0 0 0), .undef, (.osl [8] (some 6) 0 v.2.2.1), (.v (CV.int .i64 v.2.2.2.1)), .undef, .undef, .undef, .undef, .undef, .undef, .undef, .undef, .undef, .undef, .undef, .undef, .undef, .undef, .undef, .undef, .undef, .undef, .undef, .undef, .undef, .undef, .undef, .undef, .undef, .undef, .undef, .undef, .undef, .undef, .undef, .undef, .undef, .undef, .undef, .undef, .undef, .undef, .undef, .undef, .undef, .undef, .undef, .undef, .undef], [([3], (.obj [(.sl false (some 6) v.2.2.2.2.1), (.v (CV.int .i64 v.2.2.2.2.2.1))])), ([6], (.obj [(.osl [0, 6] (some 6) 0 0), (.v (CV.int .i64 0))])), ([0, 6], (.row false (some 6) [])), ([8], (.row false (some 6) v.2.2.2.2.2.2))]⟩
def f21_J1 {X : Type} (k : Nat) (K : Nat × Int × Bool × (List CV) → Option X) (rec1 : Int × Int × Nat × Int × (List CV) × Int × (List CV) → Option X) (v5_0 : Int × Int × Nat × Int × (List CV) × Int × (List CV)) (v20 : Nat × (List CV)) : Option X :=
rec1 (v5_0.1, v5_0.2.1, v20.1, (IntKind.wrap .i64 (v5_0.2.2.2.1 + 1)), v5_0.2.2.2.2.1, v5_0.2.2.2.2.2.1, v20.2)
def f21_T1 {X : Type} (k : Nat) (K : Nat × Int × Bool × (List CV) → Option X)   (rec1 : Int × Int × Nat × Int × (List CV) × Int × (List CV) → Option X) (v5_0 : Int × Int × Nat × Int × (List CV) × Int × (List CV)) : Option X :=
(bif (decide (v5_0.2.2.2.1 < (Nat.cast ((List.length v5_0.2.2.2.2.1)) : Int))) then
grd (decide (0 ≤ v5_0.2.2.2.1)) <|
Option.bind (v5_0.2.2.2.2.1)[(Int.toNat v5_0.2.2.2.1)]? fun e21 =>
Option.bind (CV.cell e21 0) fun c22 =>
grd (CV.isI .i64 c22) <|
(bif ((CV.toI c22) != v5_0.1) then
grd (decide (0 ≤ v5_0.2.2.2.1)) <|
Option.bind (v5_0.2.2.2.2.1)[(Int.toNat v5_0.2.2.2.1)]? fun e23 =>
grd (fitSh (some 6) e23) <|
grd (decide ((v5_0.2.2.1 + (List.length (List.take 1 (List.drop 0 [e23])))) * 64 ≤ 140737488355328)) <|
f21_J1 k K rec1 v5_0 ((v5_0.2.2.1 + (List.length (List.take 1 (List.drop 0 [e23])))), ((List.take v5_0.2.2.1 v5_0.2.2.2.2.2.2) ++ (List.take 1 (List.drop 0 [e23]))))
else
grd (decide (0 ≤ v5_0.2.2.2.1)) <|
Option.bind (v5_0.2.2.2.2.1)[(Int.toNat v5_0.2.2.2.1)]? fun e24 =>
Option.bind (CV.cell e24 1) fun c25 =>
grd (CV.isI .i64 c25) <|
(bif ((CV.toI c25) != v5_0.2.1) then
grd (decide (0 ≤ v5_0.2.2.2.1)) <|
Option.bind (v5_0.2.2.2.2.1)[(Int.toNat v5_0.2.2.2.1)]? fun e26 =>
grd (fitSh (some 6) e26) <|
grd (decide ((v5_0.2.2.1 + (List.length (List.take 1 (List.drop 0 [e26])))) * 64 ≤ 140737488355328)) <|
f21_J1 k K rec1 v5_0 ((v5_0.2.2.1 + (List.length (List.take 1 (List.drop 0 [e26])))), ((List.take v5_0.2.2.1 v5_0.2.2.2.2.2.2) ++ (List.take 1 (List.drop 0 [e26]))))
else
f21_J1 k K rec1 v5_0 (v5_0.2.2.1, v5_0.2.2.2.2.2.2)))
else
K (v5_0.2.2.1, v5_0.2.2.2.2.2.1, (decide ((Nat.cast (v5_0.2.2.1) : Int) < (Nat.cast ((List.length v5_0.2.2.2.2.1)) : Int))), (List.take (0 + v5_0.2.2.1) v5_0.2.2.2.2.2.2)))
def f21_L1 {X : Type} (k : Nat) (K : Nat × Int × Bool × (List CV) → Option X)  (rec1 : Int × Int × Nat × Int × (List CV) × Int × (List CV) → Option X) (v : Int × Int × Nat × Int × (List CV) × Int × (List CV)) : Option X := f21_T1 k K   rec1 v
set_option maxRecDepth 100000 in
theorem f21_L1_ev {X : Type} (k : Nat) (K : Out → Option X)  (r1 : St → Option X) (v : Int × Int × Nat × Int × (List CV) × Int × (List CV)) : loopB (f21_cx k) k [.r, .r, .l, .r, .b] (Try.f21.body.getD .skip) (retK (f21_cx k) [] Try.f21.results.toList K) [] r1 (f21_S1 v) = f21_T1 k (fun u => K (f21_out u))   (fun v => r1 (f21_S1 v)) v := by kernel_rfl
theorem f21_L1_it {X : Type} (k : Nat) (K : Out → Option X)  : (fun v => iter (loopB (f21_cx k) k [.r, .r, .l, .r, .b] (Try.f21.body.getD .skip) (retK (f21_cx k) [] Try.f21.results.toList K) []) k (f21_S1 v)) = iterV (f21_L1 k (fun u => K (f21_out u)) ) k :=
  iter_map (fun r1 v => (f21_L1_ev k K  r1 v).trans rfl) k
def f21_T {X : Type} (k : Nat) (K : Nat × Int × Bool × (List CV) → Option X) (loop1 : Int × Int × Nat × Int × (List CV) × Int × (List CV) → Option X) (x0 : List CV) (x1 : Int) (x2 : Int) (x3 : Int) : Option X :=
loop1 (x2, x3, 0, 0, x0, x1, [])
/-- "outpost/outpostref12.Stop" -/
def f21 {X : Type} (k : Nat) (K : Nat × Int × Bool × (List CV) → Option X) (x0 : List CV) (x1 : Int) (x2 : Int) (x3 : Int) : Option X := f21_T k K (iterV (f21_L1 k K) k) x0 x1 x2 x3
set_option maxRecDepth 100000 in
theorem f21_ev' {X : Type} (k : Nat) (K : Out → Option X) (x0 : List CV) (x1 : Int) (x2 : Int) (x3 : Int) : evFn (f21_cx k) [] k Try.f21.ntmps Try.f21.results.toList (Try.f21.body.getD .skip) [(.agg [(.sl false (some 6) x0), (.v (CV.int .i64 x1))]), (.v (CV.int .i64 x2)), (.v (CV.int .i64 x3))] [] K = f21_T k (fun u => K (f21_out u)) (fun v => iter (loopB (f21_cx k) k [.r, .r, .l, .r, .b] (Try.f21.body.getD .skip) (retK (f21_cx k) [] Try.f21.results.toList K) []) k (f21_S1 v)) x0 x1 x2 x3 := by kernel_rfl
theorem f21_ev {X : Type} (k : Nat) (K : Out → Option X) (x0 : List CV) (x1 : Int) (x2 : Int) (x3 : Int) : evFn (f21_cx k) [] k Try.f21.ntmps Try.f21.results.toList (Try.f21.body.getD .skip) [(.agg [(.sl false (some 6) x0), (.v (CV.int .i64 x1))]), (.v (CV.int .i64 x2)), (.v (CV.int .i64 x3))] [] K = f21 k (fun u => K (f21_out u)) x0 x1 x2 x3 := (f21_ev' k K x0 x1 x2 x3).trans (by rw [f21_L1_it k K]; rfl)
def f21_c (k : Nat) : FnC := fun X xs ns K => match xs, ns with
  | [(.agg [(.sl false (some 6) x0), (.v (CV.int .i64 x1))]), (.v (CV.int .i64 x2)), (.v (CV.int .i64 x3))], [] => f21 k (fun u => K (f21_out u)) x0 x1 x2 x3
  | _, _ => none
def f21_is (xs : List AVal) (ns : Nodes) : Bool := match xs, ns with
  | [(.agg [(.sl false (some 6) x0), (.v (CV.int .i64 x1))]), (.v (CV.int .i64 x2)), (.v (CV.int .i64 x3))], [] => true
  | _, _ => false
theorem f21_ok (k : Nat) : AnsOk Try.prog 21 (f21_c k) := by
  intro X xs ns K x h
  unfold f21_c at h ⊢
  split at h
  · exact ans_main S (f21_Cok k) Try.func21 (ent_of Try.func21 (by kernel_rfl) rfl) rfl (fun X K => f21_ev k K _ _ _ _) h
  · cases h
def f24_plan : Nat → Option (List Nat × List Wk)
  | 0 => some ([0], [])
  | 1 => some ([1], [])
  | 2 => some ([], [])
  | 3 => some ([1], [])
  | 4 => some ([1, 4], [])
  | 5 => some ([1, 4, 5], [])
  | 6 => some ([1, 4, 5], [])
  | 7 => some ([1, 4, 5], [])
  | 8 => some ([1, 5], [])
  | 9 => some ([4], [])
  | _ => none
def f24_C (k : Nat) : Fns := noC
theorem f24_Cok (k : Nat) : CsOk Try.prog (f24_C k) := noC_ok
def f24_cx (k : Nat) : Cx := mkCx (tabOf rows) (f24_C k) md f24_plan (f24_Cok k)
def f24_out (u : Int × Bool) : Out := ⟨(.tup [(.v (CV.int .i64 u.1)), (.v (CV.bool u.2))]), []⟩
def f24_S1 (v : Int × Int × (List CV) × Int) : St := ⟨[.undef, (.ptr [1] 0 0 0), .undef, .undef, (.v (CV.int .i64 v.1)), (.v (CV.int .i64 v.2.1)), .undef, .undef, .undef, .undef, .undef, .undef, .undef, .undef, .undef, .undef, .undef, .undef, .undef, .undef, .undef, .undef, .undef, .undef, .undef, .undef, .undef, .undef, .undef, .undef, .undef, .undef, .undef, .undef, .undef, .undef, .undef], [([1], (.obj [(.sl true (some 6) v.2.2.1), (.v (CV.int .i64 v.2.2.2))]))]⟩
def f24_J1 {X : Type} (k : Nat) (K : Int × Bool → Option X) (rec1 : Int × Int × (List CV) × Int → Option X) (v6_2 : Int × Int × (List CV) × Int) (v16 : Int) : Option X :=
rec1 (v16, (IntKind.wrap .i64 (v6_2.2.1 + 1)), v6_2.2.2.1, v6_2.2.2.2)
def f24_T1 {X : Type} (k : Nat) (K : Int × Bool → Option X)   (rec1 : Int × Int × (List CV) × Int → Option X) (v6_2 : Int × Int × (List CV) × Int) : Option X :=
(bif (decide (v6_2.2.1 < (Nat.cast ((List.length v6_2.2.2.1)) : Int))) then
grd (decide (0 ≤ v6_2.2.1)) <|
Option.bind (v6_2.2.2.1)[(Int.toNat v6_2.2.1)]? fun e17 =>
Option.bind (CV.cell e17 3) fun c18 =>
grd (CV.isI .i64 c18) <|
(bif (decide ((CV.toI c18) < v6_2.1)) then
grd (decide (0 ≤ v6_2.2.1)) <|
Option.bind (v6_2.2.2.1)[(Int.toNat v6_2.2.1)]? fun e19 =>
Option.bind (CV.cell e19 3) fun c20 =>
grd (CV.isI .i64 c20) <|
f24_J1 k K rec1 v6_2 ((CV.toI c20))
else
f24_J1 k K rec1 v6_2 (v6_2.1))
else
K (v6_2.1, true))
def f24_L1 {X : Type} (k : Nat) (K : Int × Bool → Option X)  (rec1 : Int × Int × (List CV) × Int → Option X) (v : Int × Int × (List CV) × Int) : Option X := f24_T1 k K   rec1 v
set_option maxRecDepth 100000 in
theorem f24_L1_ev {X : Type} (k : Nat) (K : Out → Option X)  (r1 : St → Option X) (v : Int × Int × (List CV) × Int) : loopB (f24_cx k) k [.r, .r, .r, .l, .r, .b] (Try.f24.body.getD .skip) (retK (f24_cx k) [] Try.f24.results.toList K) [] r1 (f24_S1 v) = f24_T1 k (fun u => K (f24_out u))   (fun v => r1 (f24_S1 v)) v := by kernel_rfl
theorem f24_L1_it {X : Type} (k : Nat) (K : Out → Option X)  : (fun v => iter (loopB (f24_cx k) k [.r, .r, .r, .l, .r, .b] (Try.f24.body.getD .skip) (retK (f24_cx k) [] Try.f24.results.toList K) []) k (f24_S1 v)) = iterV (f24_L1 k (fun u => K (f24_out u)) ) k :=
  iter_map (fun r1 v => (f24_L1_ev k K  r1 v).trans rfl) k
def f24_T {X : Type} (k : Nat) (K : Int × Bool → Option X) (loop1 : Int × Int × (List CV) × Int → Option X) (x0 : CV) : Option X :=
grd (CV.isA 2 x0) <|
grd (CV.isL (some 6) (CV.cellD 0 x0)) <|
grd (CV.isI .i64 (CV.cellD 1 x0)) <|
(bif ((Nat.cast ((List.length (CV.toL (CV.cellD 0 x0)))) : Int) == 0) then
K (0, false)
else
Option.bind ((CV.toL (CV.cellD 0 x0)))[0]? fun e1 =>
Option.bind (CV.cell e1 3) fun c2 =>
grd (CV.isI .i64 c2) <|
loop1 ((CV.toI c2), 1, (CV.toL (CV.cellD 0 x0)), (CV.toI (CV.cellD 1 x0))))
/-- "outpost/outpostref12.Next" -/
def f24 {X : Type} (k : Nat) (K : Int × Bool → Option X) (x0 : CV) : Option X := f24_T k K (iterV (f24_L1 k K) k) x0
set_option maxRecDepth 100000 in
theorem f24_ev' {X : Type} (k : Nat) (K : Out → Option X) (x0 : CV) : evFn (f24_cx k) [] k Try.f24.ntmps Try.f24.results.toList (Try.f24.body.getD .skip) [(.v x0)] [] K = f24_T k (fun u => K (f24_out u)) (fun v => iter (loopB (f24_cx k) k [.r, .r, .r, .l, .r, .b] (Try.f24.body.getD .skip) (retK (f24_cx k) [] Try.f24.results.toList K) []) k (f24_S1 v)) x0 := by kernel_rfl
theorem f24_ev {X : Type} (k : Nat) (K : Out → Option X) (x0 : CV) : evFn (f24_cx k) [] k Try.f24.ntmps Try.f24.results.toList (Try.f24.body.getD .skip) [(.v x0)] [] K = f24 k (fun u => K (f24_out u)) x0 := (f24_ev' k K x0).trans (by rw [f24_L1_it k K]; rfl)
def f24_c (k : Nat) : FnC := fun X xs ns K => match xs, ns with
  | [(.v x0)], [] => f24 k (fun u => K (f24_out u)) x0
  | _, _ => none
theorem f24_ok (k : Nat) : AnsOk Try.prog 24 (f24_c k) := by
  intro X xs ns K x h
  unfold f24_c at h ⊢
  split at h
  · exact ans_main S (f24_Cok k) Try.func24 (ent_of Try.func24 (by kernel_rfl) rfl) rfl (fun X K => f24_ev k K _) h
  · cases h
def f22_plan : Nat → Option (List Nat × List Wk)
  | 0 => some ([0, 1], [])
  | 1 => some ([1, 2, 4], [])
  | 2 => some ([2, 4], [])
  | 3 => some ([2, 4, 6], [⟨2, [0], none⟩])
  | 4 => some ([2, 4, 6, 7, 8], [])
  | 5 => some ([2, 4, 6], [])
  | 6 => some ([2, 4, 6, 7], [])
  | 7 => some ([2, 4, 6, 7, 9], [])
  | 8 => some ([2, 4, 6, 7, 9, 10], [])
  | 9 => some ([2, 4, 6, 7, 9, 10, 11], [])
  | 10 => some ([2, 4, 6, 7, 9, 10, 11], [])
  | 11 => some ([2, 4, 6, 7, 9, 10, 11], [])
  | 12 => some ([2, 4, 6, 7, 9, 10, 11, 12], [])
  | 13 => some ([2, 4, 6, 7, 9, 10, 11, 12], [])
  | 14 => some ([2, 4, 6, 7, 9, 11, 12], [])
  | 15 => some ([2, 4, 6, 7, 9, 10, 11, 12], [])
  | 16 => some ([2, 4, 6, 7, 9, 10, 11, 12], [])
  | 17 => some ([2, 4, 6, 7, 9, 10, 11, 12], [])
  | 18 => some ([2, 4, 6, 7, 9, 10, 11, 12], [])
  | 19 => some ([2, 4, 6, 7, 9, 10, 11, 12], [])
  | 20 => some ([2, 4, 6, 7, 9, 10, 11, 12], [])
  | 21 => some ([2, 4, 6, 9], [])
  | _ => none
def f22_C (k : Nat) : Fns := (orC 24 (f24_c k) (orC 32 (f32_c k) (orC 33 (f33_c k) noC)))
theorem f22_Cok (k : Nat) : CsOk Try.prog (f22_C k) := (orC_ok (f24_ok k) (orC_ok (f32_ok k) (orC_ok (f33_ok k) noC_ok)))
def f22_cx (k : Nat) : Cx := mkCx (tabOf rows) (f22_C k) md f22_plan (f22_Cok k)
def f22_out (u : (List CV) × Int × Nat × (List CV)) : Out := ⟨(.tup [(.agg [(.sl true (some 6) u.1), (.v (CV.int .i64 u.2.1))]), (.osl [1, 2000] (some 4) 0 u.2.2.1)]), [([1, 2000], (.row false (some 4) u.2.2.2))]⟩
def f22_S1 (v : Nat × (List CV) × Int × (List CV)) : St := ⟨[.undef, .undef, (.ptr [2] 0 0 0), .undef, (.ptr [4] 0 0 0), .undef, (.osl [6] (some 4) 0 v.1), .undef, .undef, .undef, .undef, .undef, .undef, .undef, .undef, .undef, .undef, .undef, .undef, .undef, .undef, .undef, .undef, .undef, .undef, .undef, .undef, .undef, .undef, .undef, .undef, .undef, .undef, .undef, .undef, .undef, .undef, .undef, .undef, .undef, .undef, .undef, .undef, .undef, .undef, .undef, .undef, .undef, .undef, .undef, .undef, .undef, .undef, .undef, .undef, .undef, .undef, .undef, .undef, .undef, .undef, .undef, .undef, .undef, .undef, .undef, .undef, .undef, .undef, .undef, .undef, .undef, .undef, .undef, .undef, .undef, .undef, .undef, .undef, .undef, .undef, .undef, .undef, .undef, .undef, .undef, .undef, .undef, .undef, .undef, .undef, .undef, .undef], [([2], (.obj [(.sl true (some 6) v.2.1), (.v (CV.int .i64 v.2.2.1))])), ([4], (.obj [(.osl [0, 4] (some 6) 0 0), (.v (CV.int .i64 0))])), ([0, 4], (.row false (some 6) [])), ([6], (.row false (some 4) v.2.2.2))]⟩
def f22_S2 (v : Nat × Int × Nat × Bool × Int × (List CV) × Int × (List CV) × (List CV)) : St := ⟨[.undef, .undef, (.ptr [2] 0 0 0), .undef, (.ptr [4] 0 0 0), .undef, (.osl [6] (some 4) 0 v.1), (.v (CV.int .i64 v.2.1)), .undef, (.osl [9] (some 6) 0 v.2.2.1), (.v (CV.bool v.2.2.2.1)), (.v (CV.int .i64 v.2.2.2.2.1)), .undef, .undef, .undef, .undef, .undef, .undef, .undef, .undef, .undef, .undef, .undef, .undef, .undef, .undef, .undef, .undef, .undef, .undef, .undef, .undef, .undef, .undef, .undef, .undef, .undef, .undef, .undef, .undef, .undef, .undef, .undef, .undef, .undef, .undef, .undef, .undef, .undef, .undef, .undef, .undef, .undef, .undef, .undef, .undef, .undef, .undef, .undef, .undef, .undef, .undef, .undef, .undef, .undef, .undef, .undef, .undef, .undef, .undef, .undef, .undef, .undef, .undef, .undef, .undef, .undef, .undef, .undef, .undef, .undef, .undef, .undef, .undef, .undef, .undef, .undef, .undef, .undef, .undef, .undef, .undef, .undef], [([2], (.obj [(.sl true (some 6) v.2.2.2.2.2.1), (.v (CV.int .i64 v.2.2.2.2.2.2.1))])), ([4], (.obj [(.osl [0, 4] (some 6) 0 0), (.v (CV.int .i64 0))])), ([0, 4], (.row false (some 6) [])), ([6], (.row false (some 4) v.2.2.2.2.2.2.2.1)), ([9], (.row false (some 6) v.2.2.2.2.2.2.2.2))]⟩
def f22_J1 {X : Type} (k : Nat) (K : (List CV) × Int × Nat × (List CV) → Option X) (rec2 : Nat × Int × Nat × Bool × Int × (List CV) × Int × (List CV) × (List CV) → Option X) (v13_13 : Nat × Int × Nat × Bool × Int × (List CV) × Int × (List CV) × (List CV)) (v21 : Nat × Nat × Bool × (List CV) × (List CV)) : Option X :=
rec2 (v21.1, v13_13.2.1, v21.2.1, v21.2.2.1, (IntKind.wrap .i64 (v13_13.2.2.2.2.1 + 1)), v13_13.2.2.2.2.2.1, v13_13.2.2.2.2.2.2.1, v21.2.2.2.1, v21.2.2.2.2)
def f22_T2 {X : Type} (k : Nat) (K : (List CV) × Int × Nat × (List CV) → Option X) (rec1 : Nat × (List CV) × Int × (List CV) → Option X)  (rec2 : Nat × Int × Nat × Bool × Int × (List CV) × Int × (List CV) × (List CV) → Option X) (v13_13 : Nat × Int × Nat × Bool × Int × (List CV) × Int × (List CV) × (List CV)) : Option X :=
(bif (decide (v13_13.2.2.2.2.1 < (Nat.cast ((List.length v13_13.2.2.2.2.2.1)) : Int))) then
grd (decide (0 ≤ v13_13.2.2.2.2.1)) <|
Option.bind (v13_13.2.2.2.2.2.1)[(Int.toNat v13_13.2.2.2.2.1)]? fun e22 =>
grd (CV.isA 6 e22) <|
grd (CV.isI .i64 (CV.cellD 0 e22)) <|
grd (CV.isI .i64 (CV.cellD 1 e22)) <|
grd (CV.isL none (CV.cellD 2 e22)) <|
grd (CV.isI .i64 (CV.cellD 3 e22)) <|
grd (CV.isI .i64 (CV.cellD 4 e22)) <|
grd (CV.isI .i64 (CV.cellD 5 e22)) <|
(bif v13_13.2.2.2.1 then
grd (decide ((v13_13.2.2.1 + (List.length (List.take 1 (List.drop 0 [(CV.agg [(CV.int .i64 (CV.toI (CV.cellD 0 e22))), (CV.int .i64 (CV.toI (CV.cellD 1 e22))), (CV.slc none (CV.toL (CV.cellD 2 e22))), (CV.int .i64 (CV.toI (CV.cellD 3 e22))), (CV.int .i64 (CV.toI (CV.cellD 4 e22))), (CV.int .i64 (CV.toI (CV.cellD 5 e22)))])])))) * 64 ≤ 140737488355328)) <|
f22_J1 k K rec2 v13_13 (v13_13.1, (v13_13.2.2.1 + (List.length (List.take 1 (List.drop 0 [(CV.agg [(CV.int .i64 (CV.toI (CV.cellD 0 e22))), (CV.int .i64 (CV.toI (CV.cellD 1 e22))), (CV.slc none (CV.toL (CV.cellD 2 e22))), (CV.int .i64 (CV.toI (CV.cellD 3 e22))), (CV.int .i64 (CV.toI (CV.cellD 4 e22))), (CV.int .i64 (CV.toI (CV.cellD 5 e22)))])])))), v13_13.2.2.2.1, v13_13.2.2.2.2.2.2.2.1, ((List.take v13_13.2.2.1 v13_13.2.2.2.2.2.2.2.2) ++ (List.take 1 (List.drop 0 [(CV.agg [(CV.int .i64 (CV.toI (CV.cellD 0 e22))), (CV.int .i64 (CV.toI (CV.cellD 1 e22))), (CV.slc none (CV.toL (CV.cellD 2 e22))), (CV.int .i64 (CV.toI (CV.cellD 3 e22))), (CV.int .i64 (CV.toI (CV.cellD 4 e22))), (CV.int .i64 (CV.toI (CV.cellD 5 e22)))])]))))
else
(bif ((CV.toI (CV.cellD 3 e22)) != v13_13.2.1) then
grd (decide ((v13_13.2.2.1 + (List.length (List.take 1 (List.drop 0 [(CV.agg [(CV.int .i64 (CV.toI (CV.cellD 0 e22))), (CV.int .i64 (CV.toI (CV.cellD 1 e22))), (CV.slc none (CV.toL (CV.cellD 2 e22))), (CV.int .i64 (CV.toI (CV.cellD 3 e22))), (CV.int .i64 (CV.toI (CV.cellD 4 e22))), (CV.int .i64 (CV.toI (CV.cellD 5 e22)))])])))) * 64 ≤ 140737488355328)) <|
f22_J1 k K rec2 v13_13 (v13_13.1, (v13_13.2.2.1 + (List.length (List.take 1 (List.drop 0 [(CV.agg [(CV.int .i64 (CV.toI (CV.cellD 0 e22))), (CV.int .i64 (CV.toI (CV.cellD 1 e22))), (CV.slc none (CV.toL (CV.cellD 2 e22))), (CV.int .i64 (CV.toI (CV.cellD 3 e22))), (CV.int .i64 (CV.toI (CV.cellD 4 e22))), (CV.int .i64 (CV.toI (CV.cellD 5 e22)))])])))), v13_13.2.2.2.1, v13_13.2.2.2.2.2.2.2.1, ((List.take v13_13.2.2.1 v13_13.2.2.2.2.2.2.2.2) ++ (List.take 1 (List.drop 0 [(CV.agg [(CV.int .i64 (CV.toI (CV.cellD 0 e22))), (CV.int .i64 (CV.toI (CV.cellD 1 e22))), (CV.slc none (CV.toL (CV.cellD 2 e22))), (CV.int .i64 (CV.toI (CV.cellD 3 e22))), (CV.int .i64 (CV.toI (CV.cellD 4 e22))), (CV.int .i64 (CV.toI (CV.cellD 5 e22)))])]))))
else
grd (decide ((v13_13.1 + (List.length (List.take 1 (List.drop 0 [(CV.agg [(CV.int .i64 (CV.toI (CV.cellD 0 e22))), (CV.int .i64 (CV.toI (CV.cellD 1 e22))), (CV.slc none (CV.toL (CV.cellD 2 e22))), (CV.bool ((CV.toI (CV.cellD 5 e22)) == 4))])])))) * 48 ≤ 140737488355328)) <|
(bif (decide ((CV.toI (CV.cellD 5 e22)) < 4)) then
f33 k (fun u23 =>
grd (decide ((v13_13.2.2.1 + (List.length (List.take 1 (List.drop 0 [(CV.agg [(CV.int .i64 (CV.toI (CV.cellD 0 e22))), (CV.int .i64 (CV.toI (CV.cellD 1 e22))), (CV.slc none (CV.toL (CV.cellD 2 e22))), (CV.int .i64 u23), (CV.int .i64 (IntKind.wrap .i64 ((CV.toI (CV.cellD 4 e22)) * 2))), (CV.int .i64 (IntKind.wrap .i64 ((CV.toI (CV.cellD 5 e22)) + 1)))])])))) * 64 ≤ 140737488355328)) <|
f22_J1 k K rec2 v13_13 ((v13_13.1 + (List.length (List.take 1 (List.drop 0 [(CV.agg [(CV.int .i64 (CV.toI (CV.cellD 0 e22))), (CV.int .i64 (CV.toI (CV.cellD 1 e22))), (CV.slc none (CV.toL (CV.cellD 2 e22))), (CV.bool ((CV.toI (CV.cellD 5 e22)) == 4))])])))), (v13_13.2.2.1 + (List.length (List.take 1 (List.drop 0 [(CV.agg [(CV.int .i64 (CV.toI (CV.cellD 0 e22))), (CV.int .i64 (CV.toI (CV.cellD 1 e22))), (CV.slc none (CV.toL (CV.cellD 2 e22))), (CV.int .i64 u23), (CV.int .i64 (IntKind.wrap .i64 ((CV.toI (CV.cellD 4 e22)) * 2))), (CV.int .i64 (IntKind.wrap .i64 ((CV.toI (CV.cellD 5 e22)) + 1)))])])))), true, ((List.take v13_13.1 v13_13.2.2.2.2.2.2.2.1) ++ (List.take 1 (List.drop 0 [(CV.agg [(CV.int .i64 (CV.toI (CV.cellD 0 e22))), (CV.int .i64 (CV.toI (CV.cellD 1 e22))), (CV.slc none (CV.toL (CV.cellD 2 e22))), (CV.bool ((CV.toI (CV.cellD 5 e22)) == 4))])]))), ((List.take v13_13.2.2.1 v13_13.2.2.2.2.2.2.2.2) ++ (List.take 1 (List.drop 0 [(CV.agg [(CV.int .i64 (CV.toI (CV.cellD 0 e22))), (CV.int .i64 (CV.toI (CV.cellD 1 e22))), (CV.slc none (CV.toL (CV.cellD 2 e22))), (CV.int .i64 u23), (CV.int .i64 (IntKind.wrap .i64 ((CV.toI (CV.cellD 4 e22)) * 2))), (CV.int .i64 (IntKind.wrap .i64 ((CV.toI (CV.cellD 5 e22)) + 1)))])]))))) ((IntKind.wrap .i64 ((CV.toI (CV.cellD 3 e22)) + (IntKind.wrap .i64 ((CV.toI (CV.cellD 4 e22)) * 2)))))
else
f22_J1 k K rec2 v13_13 ((v13_13.1 + (List.length (List.take 1 (List.drop 0 [(CV.agg [(CV.int .i64 (CV.toI (CV.cellD 0 e22))), (CV.int .i64 (CV.toI (CV.cellD 1 e22))), (CV.slc none (CV.toL (CV.cellD 2 e22))), (CV.bool ((CV.toI (CV.cellD 5 e22)) == 4))])])))), v13_13.2.2.1, true, ((List.take v13_13.1 v13_13.2.2.2.2.2.2.2.1) ++ (List.take 1 (List.drop 0 [(CV.agg [(CV.int .i64 (CV.toI (CV.cellD 0 e22))), (CV.int .i64 (CV.toI (CV.cellD 1 e22))), (CV.slc none (CV.toL (CV.cellD 2 e22))), (CV.bool ((CV.toI (CV.cellD 5 e22)) == 4))])]))), v13_13.2.2.2.2.2.2.2.2))))
else
rec1 (v13_13.1, (List.take v13_13.2.2.1 (List.drop 0 v13_13.2.2.2.2.2.2.2.2)), v13_13.2.2.2.2.2.2.1, v13_13.2.2.2.2.2.2.2.1))
def f22_L2 {X : Type} (k : Nat) (K : (List CV) × Int × Nat × (List CV) → Option X) (rec1 : Nat × (List CV) × Int × (List CV) → Option X) (rec2 : Nat × Int × Nat × Bool × Int × (List CV) × Int × (List CV) × (List CV) → Option X) (v : Nat × Int × Nat × Bool × Int × (List CV) × Int × (List CV) × (List CV)) : Option X := f22_T2 k K rec1  rec2 v
set_option maxRecDepth 100000 in
theorem f22_L2_ev {X : Type} (k : Nat) (K : Out → Option X) (r1 : St → Option X) (r2 : St → Option X) (v : Nat × Int × Nat × Bool × Int × (List CV) × Int × (List CV) × (List CV)) : loopB (f22_cx k) k [.r, .r, .r, .b, .o, .b, .r, .r, .r, .r, .l, .r, .b] (Try.f22.body.getD .skip) (retK (f22_cx k) [] Try.f22.results.toList K) [r1] r2 (f22_S2 v) = f22_T2 k (fun u => K (f22_out u)) (fun v => r1 (f22_S1 v))  (fun v => r2 (f22_S2 v)) v := by kernel_rfl
theorem f22_L2_it {X : Type} (k : Nat) (K : Out → Option X) (r1 : St → Option X) : (fun v => iter (loopB (f22_cx k) k [.r, .r, .r, .b, .o, .b, .r, .r, .r, .r, .l, .r, .b] (Try.f22.body.getD .skip) (retK (f22_cx k) [] Try.f22.results.toList K) [r1]) k (f22_S2 v)) = iterV (f22_L2 k (fun u => K (f22_out u)) (fun v => r1 (f22_S1 v))) k :=
  iter_map (fun r2 v => (f22_L2_ev k K r1 r2 v).trans rfl) k
def f22_T1 {X : Type} (k : Nat) (K : (List CV) × Int × Nat × (List CV) → Option X)  (loop2 : Nat × Int × Nat × Bool × Int × (List CV) × Int × (List CV) × (List CV) → Option X) (rec1 : Nat × (List CV) × Int × (List CV) → Option X) (v4_1 : Nat × (List CV) × Int × (List CV)) : Option X :=
f24 k (fun u13 =>
(bif (!u13.2) then
K (v4_1.2.1, v4_1.2.2.1, v4_1.1, (List.take (0 + v4_1.1) v4_1.2.2.2))
else
(bif (decide (u13.1 > v4_1.2.2.1)) then
K (v4_1.2.1, v4_1.2.2.1, v4_1.1, (List.take (0 + v4_1.1) v4_1.2.2.2))
else
loop2 (v4_1.1, u13.1, 0, false, 0, v4_1.2.1, v4_1.2.2.1, v4_1.2.2.2, [])))) ((CV.agg [(CV.slc (some 6) v4_1.2.1), (CV.int .i64 v4_1.2.2.1)]))
def f22_L1 {X : Type} (k : Nat) (K : (List CV) × Int × Nat × (List CV) → Option X)  (rec1 : Nat × (List CV) × Int × (List CV) → Option X) (v : Nat × (List CV) × Int × (List CV)) : Option X := f22_T1 k K  (iterV (f22_L2 k K rec1) k) rec1 v
set_option maxRecDepth 100000 in
theorem f22_L1_ev {X : Type} (k : Nat) (K : Out → Option X)  (r1 : St → Option X) (v : Nat × (List CV) × Int × (List CV)) : loopB (f22_cx k) k [.r, .r, .r, .b] (Try.f22.body.getD .skip) (retK (f22_cx k) [] Try.f22.results.toList K) [] r1 (f22_S1 v) = f22_T1 k (fun u => K (f22_out u))  (fun v => iter (loopB (f22_cx k) k [.r, .r, .r, .b, .o, .b, .r, .r, .r, .r, .l, .r, .b] (Try.f22.body.getD .skip) (retK (f22_cx k) [] Try.f22.results.toList K) [r1]) k (f22_S2 v)) (fun v => r1 (f22_S1 v)) v := by kernel_rfl
theorem f22_L1_it {X : Type} (k : Nat) (K : Out → Option X)  : (fun v => iter (loopB (f22_cx k) k [.r, .r, .r, .b] (Try.f22.body.getD .skip) (retK (f22_cx k) [] Try.f22.results.toList K) []) k (f22_S1 v)) = iterV (f22_L1 k (fun u => K (f22_out u)) ) k :=
  iter_map (fun r1 v => (f22_L1_ev k K  r1 v).trans (by rw [f22_L2_it k K r1]; rfl)) k
def f22_T {X : Type} (k : Nat) (K : (List CV) × Int × Nat × (List CV) → Option X) (loop1 : Nat × (List CV) × Int × (List CV) → Option X) (x0 : CV) (x1 : Int) : Option X :=
grd (CV.isA 2 x0) <|
grd (CV.isL (some 6) (CV.cellD 0 x0)) <|
grd (CV.isI .i64 (CV.cellD 1 x0)) <|
f32 k (fun u1 =>
loop1 (0, u1.1, u1.2, [])) ((CV.agg [(CV.slc (some 6) (CV.toL (CV.cellD 0 x0))), (CV.int .i64 (CV.toI (CV.cellD 1 x0)))])) (x1)
/-- "outpost/outpostref12.Pass" -/
def f22 {X : Type} (k : Nat) (K : (List CV) × Int × Nat × (List CV) → Option X) (x0 : CV) (x1 : Int) : Option X := f22_T k K (iterV (f22_L1 k K) k) x0 x1
set_option maxRecDepth 100000 in
theorem f22_ev' {X : Type} (k : Nat) (K : Out → Option X) (x0 : CV) (x1 : Int) : evFn (f22_cx k) [] k Try.f22.ntmps Try.f22.results.toList (Try.f22.body.getD .skip) [(.v x0), (.v (CV.int .i64 x1))] [] K = f22_T k (fun u => K (f22_out u)) (fun v => iter (loopB (f22_cx k) k [.r, .r, .r, .b] (Try.f22.body.getD .skip) (retK (f22_cx k) [] Try.f22.results.toList K) []) k (f22_S1 v)) x0 x1 := by kernel_rfl
theorem f22_ev {X : Type} (k : Nat) (K : Out → Option X) (x0 : CV) (x1 : Int) : evFn (f22_cx k) [] k Try.f22.ntmps Try.f22.results.toList (Try.f22.body.getD .skip) [(.v x0), (.v (CV.int .i64 x1))] [] K = f22 k (fun u => K (f22_out u)) x0 x1 := (f22_ev' k K x0 x1).trans (by rw [f22_L1_it k K]; rfl)
def f22_c (k : Nat) : FnC := fun X xs ns K => match xs, ns with
  | [(.v x0), (.v (CV.int .i64 x1))], [] => f22 k (fun u => K (f22_out u)) x0 x1
  | _, _ => none
theorem f22_ok (k : Nat) : AnsOk Try.prog 22 (f22_c k) := by
  intro X xs ns K x h
  unfold f22_c at h ⊢
  split at h
  · exact ans_main S (f22_Cok k) Try.func22 (ent_of Try.func22 (by kernel_rfl) rfl) rfl (fun X K => f22_ev k K _ _) h
  · cases h
def f23_plan : Nat → Option (List Nat × List Wk)
  | 0 => some ([0], [])
  | _ => none
def f23_C (k : Nat) : Fns := noC
theorem f23_Cok (k : Nat) : CsOk Try.prog (f23_C k) := noC_ok
def f23_cx (k : Nat) : Cx := mkCx (tabOf rows) (f23_C k) md f23_plan (f23_Cok k)
def f23_out (u : Int × (List CV)) : Out := ⟨(.tup []), [([1000], (.obj [(.osl [0, 1000] (some 6) 0 0), (.v (CV.int .i64 u.1))])), ([0, 1000], (.row false (some 6) u.2))]⟩
def f23_T {X : Type} (k : Nat) (K : Int × (List CV) → Option X)  (x0 : Nat) (x1 : Int) (x2 : List CV) : Option X :=
K (x1, (List.take 0 []))
/-- "(*outpost/exch.Table).Clear" -/
def f23 {X : Type} (k : Nat) (K : Int × (List CV) → Option X) (x0 : Nat) (x1 : Int) (x2 : List CV) : Option X := f23_T k K  x0 x1 x2
set_option maxRecDepth 100000 in
theorem f23_ev' {X : Type} (k : Nat) (K : Out → Option X) (x0 : Nat) (x1 : Int) (x2 : List CV) : evFn (f23_cx k) [] k Try.f23.ntmps Try.f23.results.toList (Try.f23.body.getD .skip) [(.ptr [1000] 0 0 0)] [([1000], (.obj [(.osl [0, 1000] (some 6) 0 x0), (.v (CV.int .i64 x1))])), ([0, 1000], (.row false (some 6) x2))] K = f23_T k (fun u => K (f23_out u)) x0 x1 x2 := by kernel_rfl
theorem f23_ev {X : Type} (k : Nat) (K : Out → Option X) (x0 : Nat) (x1 : Int) (x2 : List CV) : evFn (f23_cx k) [] k Try.f23.ntmps Try.f23.results.toList (Try.f23.body.getD .skip) [(.ptr [1000] 0 0 0)] [([1000], (.obj [(.osl [0, 1000] (some 6) 0 x0), (.v (CV.int .i64 x1))])), ([0, 1000], (.row false (some 6) x2))] K = f23 k (fun u => K (f23_out u)) x0 x1 x2 := (f23_ev' k K x0 x1 x2).trans rfl
def f23_c (k : Nat) : FnC := fun X xs ns K => match xs, ns with
  | [(.ptr [1000] 0 0 0)], [([1000], (.obj [(.osl [0, 1000] (some 6) 0 x0), (.v (CV.int .i64 x1))])), ([0, 1000], (.row false (some 6) x2))] => f23 k (fun u => K (f23_out u)) x0 x1 x2
  | _, _ => none
theorem f23_ok (k : Nat) : AnsOk Try.prog 23 (f23_c k) := by
  intro X xs ns K x h
  unfold f23_c at h ⊢
  split at h
  · exact ans_main S (f23_Cok k) Try.func23 (ent_of Try.func23 (by kernel_rfl) rfl) rfl (fun X K => f23_ev k K _ _ _) h
  · cases h
def f21b_plan : Nat → Option (List Nat × List Wk)
  | 0 => some ([0, 1, 2], [])
  | 1 => some ([1, 2, 3, 6], [])
  | 2 => some ([1, 2, 3, 6, 8], [])
  | 3 => some ([1, 2, 3, 6, 8, 9], [])
  | 4 => some ([1, 2, 3, 6, 8, 9], [])
  | 5 => some ([1, 2, 3, 6, 8, 9], [])
  | 6 => some ([1, 2, 3, 6, 8, 9], [])
  | 7 => some ([3, 6, 8], [])
  | 8 => some ([3, 6, 8, 10], [])
  | 9 => some ([3, 6, 10], [])
  | _ => none
def f21b_C (k : Nat) : Fns := noC
theorem f21b_Cok (k : Nat) : CsOk Try.prog (f21b_C k) := noC_ok
def f21b_cx (k : Nat) : Cx := mkCx (tabOf rows) (f21b_C k) md f21b_plan (f21b_Cok k)
def f21b_out (u : Nat × Int × Bool × (List CV)) : Out := ⟨(.tup [(.agg [(.osl [0, 0, 2000] (some 6) 0 u.1), (.v (CV.int .i64 u.2.1))]), (.v (CV.bool u.2.2.1))]), [([0, 0, 2000], (.row false (some 6) u.2.2.2))]⟩
def f21b_S1 (v : Int × Int × Nat × Int × (List CV) × Int × (List CV)) : St := ⟨[.undef, (.v (CV.int .i64 v.1)), (.v (CV.int .i64 v.2.1)), (.ptr [3] 0 0 0), .undef, .undef, (.ptr [6] 0 0 0), .undef, (.osl [8] (some 6) 0 v.2.2.1), (.v (CV.int .i64 v.2.2.2.1)), .undef, .undef, .undef, .undef, .undef, .undef, .undef, .undef, .undef, .undef, .undef, .undef, .undef, .undef, .undef, .undef, .undef, .undef, .undef, .undef, .undef, .undef, .undef, .undef, .undef, .undef, .undef, .undef, .undef, .undef, .undef, .undef, .undef, .undef, .undef, .undef, .undef, .undef, .undef, .undef, .undef, .undef, .undef, .undef, .undef], [([3], (.obj [(.sl true (some 6) v.2.2.2.2.1), (.v (CV.int .i64 v.2.2.2.2.2.1))])), ([6], (.obj [(.osl [0, 6] (some 6) 0 0), (.v (CV.int .i64 0))])), ([0, 6], (.row false (some 6) [])), ([8], (.row false (some 6) v.2.2.2.2.2.2))]⟩
def f21b_J1 {X : Type} (k : Nat) (K : Nat × Int × Bool × (List CV) → Option X) (rec1 : Int × Int × Nat × Int × (List CV) × Int × (List CV) → Option X) (v5_0 : Int × Int × Nat × Int × (List CV) × Int × (List CV)) (v20 : Nat × (List CV)) : Option X :=
rec1 (v5_0.1, v5_0.2.1, v20.1, (IntKind.wrap .i64 (v5_0.2.2.2.1 + 1)), v5_0.2.2.2.2.1, v5_0.2.2.2.2.2.1, v20.2)
def f21b_T1 {X : Type} (k : Nat) (K : Nat × Int × Bool × (List CV) → Option X)   (rec1 : Int × Int × Nat × Int × (List CV) × Int × (List CV) → Option X) (v5_0 : Int × Int × Nat × Int × (List CV) × Int × (List CV)) : Option X :=
(bif (decide (v5_0.2.2.2.1 < (Nat.cast ((List.length v5_0.2.2.2.2.1)) : Int))) then
grd (decide (0 ≤ v5_0.2.2.2.1)) <|
Option.bind (v5_0.2.2.2.2.1)[(Int.toNat v5_0.2.2.2.1)]? fun e21 =>
Option.bind (CV.cell e21 0) fun c22 =>
grd (CV.isI .i64 c22) <|
(bif ((CV.toI c22) != v5_0.1) then
grd (decide (0 ≤ v5_0.2.2.2.1)) <|
Option.bind (v5_0.2.2.2.2.1)[(Int.toNat v5_0.2.2.2.1)]? fun e23 =>
grd (fitSh (some 6) e23) <|
grd (decide ((v5_0.2.2.1 + (List.length (List.take 1 (List.drop 0 [e23])))) * 64 ≤ 140737488355328)) <|
f21b_J1 k K rec1 v5_0 ((v5_0.2.2.1 + (List.length (List.take 1 (List.drop 0 [e23])))), ((List.take v5_0.2.2.1 v5_0.2.2.2.2.2.2) ++ (List.take 1 (List.drop 0 [e23]))))
else
grd (decide (0 ≤ v5_0.2.2.2.1)) <|
Option.bind (v5_0.2.2.2.2.1)[(Int.toNat v5_0.2.2.2.1)]? fun e24 =>
Option.bind (CV.cell e24 1) fun c25 =>
grd (CV.isI .i64 c25) <|
(bif ((CV.toI c25) != v5_0.2.1) then
grd (decide (0 ≤ v5_0.2.2.2.1)) <|
Option.bind (v5_0.2.2.2.2.1)[(Int.toNat v5_0.2.2.2.1)]? fun e26 =>
grd (fitSh (some 6) e26) <|
grd (decide ((v5_0.2.2.1 + (List.length (List.take 1 (List.drop 0 [e26])))) * 64 ≤ 140737488355328)) <|
f21b_J1 k K rec1 v5_0 ((v5_0.2.2.1 + (List.length (List.take 1 (List.drop 0 [e26])))), ((List.take v5_0.2.2.1 v5_0.2.2.2.2.2.2) ++ (List.take 1 (List.drop 0 [e26]))))
else
f21b_J1 k K rec1 v5_0 (v5_0.2.2.1, v5_0.2.2.2.2.2.2)))
else
K (v5_0.2.2.1, v5_0.2.2.2.2.2.1, (decide ((Nat.cast (v5_0.2.2.1) : Int) < (Nat.cast ((List.length v5_0.2.2.2.2.1)) : Int))), (List.take (0 + v5_0.2.2.1) v5_0.2.2.2.2.2.2)))
def f21b_L1 {X : Type} (k : Nat) (K : Nat × Int × Bool × (List CV) → Option X)  (rec1 : Int × Int × Nat × Int × (List CV) × Int × (List CV) → Option X) (v : Int × Int × Nat × Int × (List CV) × Int × (List CV)) : Option X := f21b_T1 k K   rec1 v
set_option maxRecDepth 100000 in
theorem f21b_L1_ev {X : Type} (k : Nat) (K : Out → Option X)  (r1 : St → Option X) (v : Int × Int × Nat × Int × (List CV) × Int × (List CV)) : loopB (f21b_cx k) k [.r, .r, .l, .r, .b] (Try.f21.body.getD .skip) (retK (f21b_cx k) [] Try.f21.results.toList K) [] r1 (f21b_S1 v) = f21b_T1 k (fun u => K (f21b_out u))   (fun v => r1 (f21b_S1 v)) v := by kernel_rfl
theorem f21b_L1_it {X : Type} (k : Nat) (K : Out → Option X)  : (fun v => iter (loopB (f21b_cx k) k [.r, .r, .l, .r, .b] (Try.f21.body.getD .skip) (retK (f21b_cx k) [] Try.f21.results.toList K) []) k (f21b_S1 v)) = iterV (f21b_L1 k (fun u => K (f21b_out u)) ) k :=
  iter_map (fun r1 v => (f21b_L1_ev k K  r1 v).trans rfl) k
def f21b_T {X : Type} (k : Nat) (K : Nat × Int × Bool × (List CV) → Option X) (loop1 : Int × Int × Nat × Int × (List CV) × Int × (List CV) → Option X) (x0 : CV) (x1 : Int) (x2 : Int) : Option X :=
grd (CV.isA 2 x0) <|
grd (CV.isL (some 6) (CV.cellD 0 x0)) <|
grd (CV.isI .i64 (CV.cellD 1 x0)) <|
loop1 (x1, x2, 0, 0, (CV.toL (CV.cellD 0 x0)), (CV.toI (CV.cellD 1 x0)), [])
/-- "outpost/outpostref12.Stop" -/
def f21b {X : Type} (k : Nat) (K : Nat × Int × Bool × (List CV) → Option X) (x0 : CV) (x1 : Int) (x2 : Int) : Option X := f21b_T k K (iterV (f21b_L1 k K) k) x0 x1 x2
set_option maxRecDepth 100000 in
theorem f21b_ev' {X : Type} (k : Nat) (K : Out → Option X) (x0 : CV) (x1 : Int) (x2 : Int) : evFn (f21b_cx k) [] k Try.f21.ntmps Try.f21.results.toList (Try.f21.body.getD .skip) [(.v x0), (.v (CV.int .i64 x1)), (.v (CV.int .i64 x2))] [] K = f21b_T k (fun u => K (f21b_out u)) (fun v => iter (loopB (f21b_cx k) k [.r, .r, .l, .r, .b] (Try.f21.body.getD .skip) (retK (f21b_cx k) [] Try.f21.results.toList K) []) k (f21b_S1 v)) x0 x1 x2 := by kernel_rfl
theorem f21b_ev {X : Type} (k : Nat) (K : Out → Option X) (x0 : CV) (x1 : Int) (x2 : Int) : evFn (f21b_cx k) [] k Try.f21.ntmps Try.f21.results.toList (Try.f21.body.getD .skip) [(.v x0), (.v (CV.int .i64 x1)), (.v (CV.int .i64 x2))] [] K = f21b k (fun u => K (f21b_out u)) x0 x1 x2 := (f21b_ev' k K x0 x1 x2).trans (by rw [f21b_L1_it k K]; rfl)
def f21b_c (k : Nat) : FnC := fun X xs ns K => match xs, ns with
  | [(.v x0), (.v (CV.int .i64 x1)), (.v (CV.int .i64 x2))], [] => f21b k (fun u => K (f21b_out u)) x0 x1 x2
  | _, _ => none
def f21b_is (xs : List AVal) (ns : Nodes) : Bool := match xs, ns with
  | [(.v x0), (.v (CV.int .i64 x1)), (.v (CV.int .i64 x2))], [] => true
  | _, _ => false
theorem f21b_ok (k : Nat) : AnsOk Try.prog 21 (f21b_c k) := by
  intro X xs ns K x h
  unfold f21b_c at h ⊢
  split at h
  · exact ans_main S (f21b_Cok k) Try.func21 (ent_of Try.func21 (by kernel_rfl) rfl) rfl (fun X K => f21b_ev k K _ _ _) h
  · cases h
theorem hidden {α : Type 1} (a : α) : ∃ g, g = a := ⟨a, rfl⟩
noncomputable def hide {α : Type 1} (a : α) : α := Classical.choose (hidden a)
theorem hide_eq {α : Type 1} (a : α) : hide a = a := Classical.choose_spec (hidden a)
noncomputable def f10_g : ∀ (X : Type) (k : Nat) (K : Int × Nat × Int × (List CV) → Option X) (x0 : Int) (x1 : Int) (x2 : List CV) (x3 : Int) (x4 : Int) (x5 : Nat) (x6 : Int) (x7 : List CV), Option X := hide fun X k K x0 x1 x2 x3 x4 x5 x6 x7 => f10 k K x0 x1 x2 x3 x4 x5 x6 x7
noncomputable def f10_h {X : Type} (k : Nat) (K : Int × Nat × Int × (List CV) → Option X) (x0 : Int) (x1 : Int) (x2 : List CV) (x3 : Int) (x4 : Int) (x5 : Nat) (x6 : Int) (x7 : List CV) : Option X := f10_g X k K x0 x1 x2 x3 x4 x5 x6 x7
theorem f10_h_eq {X : Type} (k : Nat) (K : Int × Nat × Int × (List CV) → Option X) (x0 : Int) (x1 : Int) (x2 : List CV) (x3 : Int) (x4 : Int) (x5 : Nat) (x6 : Int) (x7 : List CV) : f10_h k K x0 x1 x2 x3 x4 x5 x6 x7 = f10 k K x0 x1 x2 x3 x4 x5 x6 x7 := by
  unfold f10_h f10_g
  rw [hide_eq]
noncomputable def f10_ch (k : Nat) : FnC := fun X xs ns K => match xs, ns with
  | [(.ptr [1000] 0 0 0), (.v (CV.int .i64 x0)), (.v (CV.int .i64 x1)), (.sl false none x2), (.v (CV.int .i64 x3)), (.v (CV.int .i64 x4))], [([1000], (.obj [(.osl [0, 1000] (some 6) 0 x5), (.v (CV.int .i64 x6))])), ([0, 1000], (.row false (some 6) x7))] => f10_h k (fun u => K (f10_out u)) x0 x1 x2 x3 x4 x5 x6 x7
  | _, _ => none
theorem f10_okh (k : Nat) : AnsOk Try.prog 10 (f10_ch k) := by
  have e : f10_ch k = f10_c k := by
    unfold f10_ch f10_c
    simp only [f10_h_eq]
  rw [e]
  exact f10_ok k
noncomputable def f11_g : ∀ (X : Type) (k : Nat) (K : Nat × Nat × Int × (List CV) × (List CV) → Option X) (x0 : Int) (x1 : Nat) (x2 : Int) (x3 : List CV), Option X := hide fun X k K x0 x1 x2 x3 => f11 k K x0 x1 x2 x3
noncomputable def f11_h {X : Type} (k : Nat) (K : Nat × Nat × Int × (List CV) × (List CV) → Option X) (x0 : Int) (x1 : Nat) (x2 : Int) (x3 : List CV) : Option X := f11_g X k K x0 x1 x2 x3
theorem f11_h_eq {X : Type} (k : Nat) (K : Nat × Nat × Int × (List CV) × (List CV) → Option X) (x0 : Int) (x1 : Nat) (x2 : Int) (x3 : List CV) : f11_h k K x0 x1 x2 x3 = f11 k K x0 x1 x2 x3 := by
  unfold f11_h f11_g
  rw [hide_eq]
noncomputable def f11_ch (k : Nat) : FnC := fun X xs ns K => match xs, ns with
  | [(.ptr [1000] 0 0 0), (.v (CV.int .i64 x0))], [([1000], (.obj [(.osl [0, 1000] (some 6) 0 x1), (.v (CV.int .i64 x2))])), ([0, 1000], (.row false (some 6) x3))] => f11_h k (fun u => K (f11_out u)) x0 x1 x2 x3
  | _, _ => none
theorem f11_okh (k : Nat) : AnsOk Try.prog 11 (f11_ch k) := by
  have e : f11_ch k = f11_c k := by
    unfold f11_ch f11_c
    simp only [f11_h_eq]
  rw [e]
  exact f11_ok k
noncomputable def f13_g : ∀ (X : Type) (k : Nat) (K : Bool × Nat × Int × (List CV) → Option X) (x0 : Int) (x1 : Int) (x2 : Nat) (x3 : Int) (x4 : List CV), Option X := hide fun X k K x0 x1 x2 x3 x4 => f13 k K x0 x1 x2 x3 x4
noncomputable def f13_h {X : Type} (k : Nat) (K : Bool × Nat × Int × (List CV) → Option X) (x0 : Int) (x1 : Int) (x2 : Nat) (x3 : Int) (x4 : List CV) : Option X := f13_g X k K x0 x1 x2 x3 x4
theorem f13_h_eq {X : Type} (k : Nat) (K : Bool × Nat × Int × (List CV) → Option X) (x0 : Int) (x1 : Int) (x2 : Nat) (x3 : Int) (x4 : List CV) : f13_h k K x0 x1 x2 x3 x4 = f13 k K x0 x1 x2 x3 x4 := by
  unfold f13_h f13_g
  rw [hide_eq]
noncomputable def f13_ch (k : Nat) : FnC := fun X xs ns K => match xs, ns with
  | [(.ptr [1000] 0 0 0), (.v (CV.int .i64 x0)), (.v (CV.int .i64 x1))], [([1000], (.obj [(.osl [0, 1000] (some 6) 0 x2), (.v (CV.int .i64 x3))])), ([0, 1000], (.row false (some 6) x4))] => f13_h k (fun u => K (f13_out u)) x0 x1 x2 x3 x4
  | _, _ => none
theorem f13_okh (k : Nat) : AnsOk Try.prog 13 (f13_ch k) := by
  have e : f13_ch k = f13_c k := by
    unfold f13_ch f13_c
    simp only [f13_h_eq]
  rw [e]
  exact f13_ok k
noncomputable def f14_g : ∀ (X : Type) (k : Nat) (K : Bool × Nat × Int × (List CV) → Option X) (x0 : Int) (x1 : Int) (x2 : Nat) (x3 : Int) (x4 : List CV), Option X := hide fun X k K x0 x1 x2 x3 x4 => f14 k K x0 x1 x2 x3 x4
noncomputable def f14_h {X : Type} (k : Nat) (K : Bool × Nat × Int × (List CV) → Option X) (x0 : Int) (x1 : Int) (x2 : Nat) (x3 : Int) (x4 : List CV) : Option X := f14_g X k K x0 x1 x2 x3 x4
theorem f14_h_eq {X : Type} (k : Nat) (K : Bool × Nat × Int × (List CV) → Option X) (x0 : Int) (x1 : Int) (x2 : Nat) (x3 : Int) (x4 : List CV) : f14_h k K x0 x1 x2 x3 x4 = f14 k K x0 x1 x2 x3 x4 := by
  unfold f14_h f14_g
  rw [hide_eq]
noncomputable def f14_ch (k : Nat) : FnC := fun X xs ns K => match xs, ns with
  | [(.ptr [1000] 0 0 0), (.v (CV.int .i64 x0)), (.v (CV.int .i64 x1))], [([1000], (.obj [(.osl [0, 1000] (some 6) 0 x2), (.v (CV.int .i64 x3))])), ([0, 1000], (.row false (some 6) x4))] => f14_h k (fun u => K (f14_out u)) x0 x1 x2 x3 x4
  | _, _ => none
theorem f14_okh (k : Nat) : AnsOk Try.prog 14 (f14_ch k) := by
  have e : f14_ch k = f14_c k := by
    unfold f14_ch f14_c
    simp only [f14_h_eq]
  rw [e]
  exact f14_ok k
noncomputable def f15_g : ∀ (X : Type) (k : Nat) (K : Bool → Option X) (x0 : List CV), Option X := hide fun X k K x0 => f15 k K x0
noncomputable def f15_h {X : Type} (k : Nat) (K : Bool → Option X) (x0 : List CV) : Option X := f15_g X k K x0
theorem f15_h_eq {X : Type} (k : Nat) (K : Bool → Option X) (x0 : List CV) : f15_h k K x0 = f15 k K x0 := by
  unfold f15_h f15_g
  rw [hide_eq]
noncomputable def f15_ch (k : Nat) : FnC := fun X xs ns K => match xs, ns with
  | [(.sl false (some 6) x0)], [] => f15_h k (fun u => K (f15_out u)) x0
  | _, _ => none
theorem f15_okh (k : Nat) : AnsOk Try.prog 15 (f15_ch k) := by
  have e : f15_ch k = f15_c k := by
    unfold f15_ch f15_c
    simp only [f15_h_eq]
  rw [e]
  exact f15_ok k
noncomputable def f16_g : ∀ (X : Type) (k : Nat) (K : Bool → Option X) (x0 : List CV) (x1 : List CV), Option X := hide fun X k K x0 x1 => f16 k K x0 x1
noncomputable def f16_h {X : Type} (k : Nat) (K : Bool → Option X) (x0 : List CV) (x1 : List CV) : Option X := f16_g X k K x0 x1
theorem f16_h_eq {X : Type} (k : Nat) (K : Bool → Option X) (x0 : List CV) (x1 : List CV) : f16_h k K x0 x1 = f16 k K x0 x1 := by
  unfold f16_h f16_g
  rw [hide_eq]
noncomputable def f16_ch (k : Nat) : FnC := fun X xs ns K => match xs, ns with
  | [(.sl false (some 4) x0), (.sl false (some 4) x1)], [] => f16_h k (fun u => K (f16_out u)) x0 x1
  | _, _ => none
theorem f16_okh (k : Nat) : AnsOk Try.prog 16 (f16_ch k) := by
  have e : f16_ch k = f16_c k := by
    unfold f16_ch f16_c
    simp only [f16_h_eq]
  rw [e]
  exact f16_ok k
noncomputable def f17_g : ∀ (X : Type) (k : Nat) (K : Nat × (List CV) → Option X) (x0 : List CV), Option X := hide fun X k K x0 => f17 k K x0
noncomputable def f17_h {X : Type} (k : Nat) (K : Nat × (List CV) → Option X) (x0 : List CV) : Option X := f17_g X k K x0
theorem f17_h_eq {X : Type} (k : Nat) (K : Nat × (List CV) → Option X) (x0 : List CV) : f17_h k K x0 = f17 k K x0 := by
  unfold f17_h f17_g
  rw [hide_eq]
noncomputable def f17_ch (k : Nat) : FnC := fun X xs ns K => match xs, ns with
  | [(.sl false (some 4) x0)], [] => f17_h k (fun u => K (f17_out u)) x0
  | _, _ => none
theorem f17_okh (k : Nat) : AnsOk Try.prog 17 (f17_ch k) := by
  have e : f17_ch k = f17_c k := by
    unfold f17_ch f17_c
    simp only [f17_h_eq]
  rw [e]
  exact f17_ok k
noncomputable def f18_g : ∀ (X : Type) (k : Nat) (K : Int × Nat × Int × (List CV) → Option X) (x0 : Nat) (x1 : Int) (x2 : List CV), Option X := hide fun X k K x0 x1 x2 => f18 k K x0 x1 x2
noncomputable def f18_h {X : Type} (k : Nat) (K : Int × Nat × Int × (List CV) → Option X) (x0 : Nat) (x1 : Int) (x2 : List CV) : Option X := f18_g X k K x0 x1 x2
theorem f18_h_eq {X : Type} (k : Nat) (K : Int × Nat × Int × (List CV) → Option X) (x0 : Nat) (x1 : Int) (x2 : List CV) : f18_h k K x0 x1 x2 = f18 k K x0 x1 x2 := by
  unfold f18_h f18_g
  rw [hide_eq]
noncomputable def f18_ch (k : Nat) : FnC := fun X xs ns K => match xs, ns with
  | [(.ptr [1000] 0 0 0)], [([1000], (.obj [(.osl [0, 1000] (some 6) 0 x0), (.v (CV.int .i64 x1))])), ([0, 1000], (.row false (some 6) x2))] => f18_h k (fun u => K (f18_out u)) x0 x1 x2
  | _, _ => none
theorem f18_okh (k : Nat) : AnsOk Try.prog 18 (f18_ch k) := by
  have e : f18_ch k = f18_c k := by
    unfold f18_ch f18_c
    simp only [f18_h_eq]
  rw [e]
  exact f18_ok k
noncomputable def f19_g : ∀ (X : Type) (k : Nat) (K : Int × Bool × Nat × Int × (List CV) → Option X) (x0 : Nat) (x1 : Int) (x2 : List CV), Option X := hide fun X k K x0 x1 x2 => f19 k K x0 x1 x2
noncomputable def f19_h {X : Type} (k : Nat) (K : Int × Bool × Nat × Int × (List CV) → Option X) (x0 : Nat) (x1 : Int) (x2 : List CV) : Option X := f19_g X k K x0 x1 x2
theorem f19_h_eq {X : Type} (k : Nat) (K : Int × Bool × Nat × Int × (List CV) → Option X) (x0 : Nat) (x1 : Int) (x2 : List CV) : f19_h k K x0 x1 x2 = f19 k K x0 x1 x2 := by
  unfold f19_h f19_g
  rw [hide_eq]
noncomputable def f19_ch (k : Nat) : FnC := fun X xs ns K => match xs, ns with
  | [(.ptr [1000] 0 0 0)], [([1000], (.obj [(.osl [0, 1000] (some 6) 0 x0), (.v (CV.int .i64 x1))])), ([0, 1000], (.row false (some 6) x2))] => f19_h k (fun u => K (f19_out u)) x0 x1 x2
  | _, _ => none
theorem f19_okh (k : Nat) : AnsOk Try.prog 19 (f19_ch k) := by
  have e : f19_ch k = f19_c k := by
    unfold f19_ch f19_c
    simp only [f19_h_eq]
  rw [e]
  exact f19_ok k
noncomputable def f20_g : ∀ (X : Type) (k : Nat) (K : (List CV) × Int × Int → Option X) (x0 : CV) (x1 : Int) (x2 : Int) (x3 : List CV) (x4 : Int) (x5 : Int), Option X := hide fun X k K x0 x1 x2 x3 x4 x5 => f20 k K x0 x1 x2 x3 x4 x5
noncomputable def f20_h {X : Type} (k : Nat) (K : (List CV) × Int × Int → Option X) (x0 : CV) (x1 : Int) (x2 : Int) (x3 : List CV) (x4 : Int) (x5 : Int) : Option X := f20_g X k K x0 x1 x2 x3 x4 x5
theorem f20_h_eq {X : Type} (k : Nat) (K : (List CV) × Int × Int → Option X) (x0 : CV) (x1 : Int) (x2 : Int) (x3 : List CV) (x4 : Int) (x5 : Int) : f20_h k K x0 x1 x2 x3 x4 x5 = f20 k K x0 x1 x2 x3 x4 x5 := by
  unfold f20_h f20_g
  rw [hide_eq]
noncomputable def f20_ch (k : Nat) : FnC := fun X xs ns K => match xs, ns with
  | [(.v x0), (.v (CV.int .i64 x1)), (.v (CV.int .i64 x2)), (.sl false none x3), (.v (CV.int .i64 x4)), (.v (CV.int .i64 x5))], [] => f20_h k (fun u => K (f20_out u)) x0 x1 x2 x3 x4 x5
  | _, _ => none
theorem f20_okh (k : Nat) : AnsOk Try.prog 20 (f20_ch k) := by
  have e : f20_ch k = f20_c k := by
    unfold f20_ch f20_c
    simp only [f20_h_eq]
  rw [e]
  exact f20_ok k
noncomputable def f21b_g : ∀ (X : Type) (k : Nat) (K : Nat × Int × Bool × (List CV) → Option X) (x0 : CV) (x1 : Int) (x2 : Int), Option X := hide fun X k K x0 x1 x2 => f21b k K x0 x1 x2
noncomputable def f21b_h {X : Type} (k : Nat) (K : Nat × Int × Bool × (List CV) → Option X) (x0 : CV) (x1 : Int) (x2 : Int) : Option X := f21b_g X k K x0 x1 x2
theorem f21b_h_eq {X : Type} (k : Nat) (K : Nat × Int × Bool × (List CV) → Option X) (x0 : CV) (x1 : Int) (x2 : Int) : f21b_h k K x0 x1 x2 = f21b k K x0 x1 x2 := by
  unfold f21b_h f21b_g
  rw [hide_eq]
noncomputable def f21b_ch (k : Nat) : FnC := fun X xs ns K => match xs, ns with
  | [(.v x0), (.v (CV.int .i64 x1)), (.v (CV.int .i64 x2))], [] => f21b_h k (fun u => K (f21b_out u)) x0 x1 x2
  | _, _ => none
theorem f21b_okh (k : Nat) : AnsOk Try.prog 21 (f21b_ch k) := by
  have e : f21b_ch k = f21b_c k := by
    unfold f21b_ch f21b_c
    simp only [f21b_h_eq]
  rw [e]
  exact f21b_ok k
noncomputable def f22_g : ∀ (X : Type) (k : Nat) (K : (List CV) × Int × Nat × (List CV) → Option X) (x0 : CV) (x1 : Int), Option X := hide fun X k K x0 x1 => f22 k K x0 x1
noncomputable def f22_h {X : Type} (k : Nat) (K : (List CV) × Int × Nat × (List CV) → Option X) (x0 : CV) (x1 : Int) : Option X := f22_g X k K x0 x1
theorem f22_h_eq {X : Type} (k : Nat) (K : (List CV) × Int × Nat × (List CV) → Option X) (x0 : CV) (x1 : Int) : f22_h k K x0 x1 = f22 k K x0 x1 := by
  unfold f22_h f22_g
  rw [hide_eq]
noncomputable def f22_ch (k : Nat) : FnC := fun X xs ns K => match xs, ns with
  | [(.v x0), (.v (CV.int .i64 x1))], [] => f22_h k (fun u => K (f22_out u)) x0 x1
  | _, _ => none
theorem f22_okh (k : Nat) : AnsOk Try.prog 22 (f22_ch k) := by
  have e : f22_ch k = f22_c k := by
    unfold f22_ch f22_c
    simp only [f22_h_eq]
  rw [e]
  exact f22_ok k
noncomputable def f23_g : ∀ (X : Type) (k : Nat) (K : Int × (List CV) → Option X) (x0 : Nat) (x1 : Int) (x2 : List CV), Option X := hide fun X k K x0 x1 x2 => f23 k K x0 x1 x2
noncomputable def f23_h {X : Type} (k : Nat) (K : Int × (List CV) → Option X) (x0 : Nat) (x1 : Int) (x2 : List CV) : Option X := f23_g X k K x0 x1 x2
theorem f23_h_eq {X : Type} (k : Nat) (K : Int × (List CV) → Option X) (x0 : Nat) (x1 : Int) (x2 : List CV) : f23_h k K x0 x1 x2 = f23 k K x0 x1 x2 := by
  unfold f23_h f23_g
  rw [hide_eq]
noncomputable def f23_ch (k : Nat) : FnC := fun X xs ns K => match xs, ns with
  | [(.ptr [1000] 0 0 0)], [([1000], (.obj [(.osl [0, 1000] (some 6) 0 x0), (.v (CV.int .i64 x1))])), ([0, 1000], (.row false (some 6) x2))] => f23_h k (fun u => K (f23_out u)) x0 x1 x2
  | _, _ => none
theorem f23_okh (k : Nat) : AnsOk Try.prog 23 (f23_ch k) := by
  have e : f23_ch k = f23_c k := by
    unfold f23_ch f23_c
    simp only [f23_h_eq]
  rw [e]
  exact f23_ok k
noncomputable def f24_g : ∀ (X : Type) (k : Nat) (K : Int × Bool → Option X) (x0 : CV), Option X := hide fun X k K x0 => f24 k K x0
noncomputable def f24_h {X : Type} (k : Nat) (K : Int × Bool → Option X) (x0 : CV) : Option X := f24_g X k K x0
theorem f24_h_eq {X : Type} (k : Nat) (K : Int × Bool → Option X) (x0 : CV) : f24_h k K x0 = f24 k K x0 := by
  unfold f24_h f24_g
  rw [hide_eq]
noncomputable def f24_ch (k : Nat) : FnC := fun X xs ns K => match xs, ns with
  | [(.v x0)], [] => f24_h k (fun u => K (f24_out u)) x0
  | _, _ => none
theorem f24_okh (k : Nat) : AnsOk Try.prog 24 (f24_ch k) := by
  have e : f24_ch k = f24_c k := by
    unfold f24_ch f24_c
    simp only [f24_h_eq]
  rw [e]
  exact f24_ok k
noncomputable def f25_g : ∀ (X : Type) (k : Nat) (K : Bool → Option X) (x0 : CV) (x1 : Int) (x2 : Int), Option X := hide fun X k K x0 x1 x2 => f25 k K x0 x1 x2
noncomputable def f25_h {X : Type} (k : Nat) (K : Bool → Option X) (x0 : CV) (x1 : Int) (x2 : Int) : Option X := f25_g X k K x0 x1 x2
theorem f25_h_eq {X : Type} (k : Nat) (K : Bool → Option X) (x0 : CV) (x1 : Int) (x2 : Int) : f25_h k K x0 x1 x2 = f25 k K x0 x1 x2 := by
  unfold f25_h f25_g
  rw [hide_eq]
noncomputable def f25_ch (k : Nat) : FnC := fun X xs ns K => match xs, ns with
  | [(.v x0), (.v (CV.int .i64 x1)), (.v (CV.int .i64 x2))], [] => f25_h k (fun u => K (f25_out u)) x0 x1 x2
  | _, _ => none
theorem f25_okh (k : Nat) : AnsOk Try.prog 25 (f25_ch k) := by
  have e : f25_ch k = f25_c k := by
    unfold f25_ch f25_c
    simp only [f25_h_eq]
  rw [e]
  exact f25_ok k
noncomputable def f7_g : ∀ (X : Type) (k : Nat) (K : Bool → Option X), Option X := hide fun X k K => f7 k K
noncomputable def f7_h {X : Type} (k : Nat) (K : Bool → Option X) : Option X := f7_g X k K
theorem f7_h_eq {X : Type} (k : Nat) (K : Bool → Option X) : f7_h k K = f7 k K := by
  unfold f7_h f7_g
  rw [hide_eq]
noncomputable def f7_ch (k : Nat) : FnC := fun X xs ns K => match xs, ns with
  | [], [] => f7_h k (fun u => K (f7_out u)) 
  | _, _ => none
theorem f7_okh (k : Nat) : AnsOk Try.prog 7 (f7_ch k) := by
  have e : f7_ch k = f7_c k := by
    unfold f7_ch f7_c
    simp only [f7_h_eq]
  rw [e]
  exact f7_ok k
noncomputable def f8_g : ∀ (X : Type) (k : Nat) (K : (List CV) → Option X), Option X := hide fun X k K => f8 k K
noncomputable def f8_h {X : Type} (k : Nat) (K : (List CV) → Option X) : Option X := f8_g X k K
theorem f8_h_eq {X : Type} (k : Nat) (K : (List CV) → Option X) : f8_h k K = f8 k K := by
  unfold f8_h f8_g
  rw [hide_eq]
noncomputable def f8_ch (k : Nat) : FnC := fun X xs ns K => match xs, ns with
  | [], [] => f8_h k (fun u => K (f8_out u)) 
  | _, _ => none
theorem f8_okh (k : Nat) : AnsOk Try.prog 8 (f8_ch k) := by
  have e : f8_ch k = f8_c k := by
    unfold f8_ch f8_c
    simp only [f8_h_eq]
  rw [e]
  exact f8_ok k
noncomputable section
def f6_plan : Nat → Option (List Nat × List Wk)
  | 0 => some ([0], [])
  | 1 => some ([0], [])
  | 2 => some ([], [])
  | 3 => some ([0], [])
  | 4 => some ([], [])
  | 5 => some ([0], [])
  | 6 => some ([0, 3, 4], [])
  | 7 => some ([3, 4, 27, 28, 29], [⟨4, [0], none⟩])
  | 8 => some ([3, 4, 27, 28, 29], [])
  | 9 => some ([3, 4, 6, 27, 28, 29], [])
  | 10 => some ([3, 4, 6, 27, 28, 29, 34], [])
  | 11 => some ([3, 4, 6, 27, 28, 29, 34], [])
  | 12 => some ([3, 4, 6, 27, 28, 29], [])
  | 13 => some ([3, 4, 6, 7, 27, 28, 29], [])
  | 14 => some ([3, 4, 6, 7, 8, 9, 27, 28, 29], [])
  | 15 => some ([3, 4, 6, 7, 9, 27, 28, 29], [])
  | 16 => some ([], [])
  | 17 => some ([3, 4, 6, 27, 28, 29, 34], [])
  | 18 => some ([3, 4, 6, 27, 28, 29], [])
  | 19 => some ([3, 4, 6, 10, 27, 28, 29], [])
  | 20 => some ([3, 4, 6, 10, 11, 12, 27, 28, 29], [])
  | 21 => some ([3, 4, 6, 10, 12, 27, 28, 29], [])
  | 22 => some ([], [])
  | 23 => some ([3, 4, 6, 27, 28, 29, 34], [])
  | 24 => some ([3, 4, 6, 27, 28, 29, 34], [])
  | 25 => some ([3, 4, 6, 27, 28, 29], [])
  | 26 => some ([3, 4, 6, 13, 27, 28, 29], [])
  | 27 => some ([3, 4, 6, 13, 14, 15, 27, 28, 29], [])
  | 28 => some ([3, 4, 6, 13, 15, 27, 28, 29], [])
  | 29 => some ([], [])
  | 30 => some ([3, 4, 6, 27, 28, 29, 34], [])
  | 31 => some ([3, 4, 6, 27, 28, 29], [])
  | 32 => some ([3, 4, 6, 27, 28, 29], [])
  | 33 => some ([3, 4, 6, 27, 28, 29], [⟨4, [0], none⟩])
  | 34 => some ([3, 4, 6, 16, 17, 27, 28, 29], [])
  | 35 => some ([3, 4, 6, 16, 17, 18, 19, 27, 28, 29], [])
  | 36 => some ([], [])
  | 37 => some ([3, 4, 27, 28, 29], [])
  | 38 => some ([], [])
  | _ => none
def f6_C (k : Nat) : Fns := (orC 7 (f7_ch k) (orC 8 (f8_ch k) (orC 10 (f10_ch k) (orC 11 (f11_ch k) (orC 13 (f13_ch k) (orC 14 (f14_ch k) (orC 15 (f15_ch k) (orC 16 (f16_ch k) (orC 17 (f17_ch k) (orC 18 (f18_ch k) (orC 19 (f19_ch k) (orC 20 (f20_ch k) (orC 21 (f21b_ch k) (orC 22 (f22_ch k) (orC 23 (f23_ch k) (orC 24 (f24_ch k) (orC 25 (f25_ch k) noC)))))))))))))))))
theorem f6_Cok (k : Nat) : CsOk Try.prog (f6_C k) := (orC_ok (f7_okh k) (orC_ok (f8_okh k) (orC_ok (f10_okh k) (orC_ok (f11_okh k) (orC_ok (f13_okh k) (orC_ok (f14_okh k) (orC_ok (f15_okh k) (orC_ok (f16_okh k) (orC_ok (f17_okh k) (orC_ok (f18_okh k) (orC_ok (f19_okh k) (orC_ok (f20_okh k) (orC_ok (f21b_okh k) (orC_ok (f22_okh k) (orC_ok (f23_okh k) (orC_ok (f24_okh k) (orC_ok (f25_okh k) noC_ok)))))))))))))))))
def f6_cx (k : Nat) : Cx := mkCx (tabOf rows) (f6_C k) md f6_plan (f6_Cok k)
def f6_out (u : Bool) : Out := ⟨(.v (CV.bool u)), []⟩
def f6_S1 (v : (List CV) × Int × Int × (List CV) × Int × Nat × Int × (List CV)) : St := ⟨[.undef, .undef, .undef, (.ptr [25] 0 0 0), (.ptr [4] 0 0 0), .undef, .undef, .undef, .undef, .undef, .undef, .undef, .undef, .undef, .undef, .undef, .undef, .undef, .undef, .undef, .undef, .undef, .undef, .undef, .undef, .undef, .undef, (.sl true (some 6) v.1), (.v (CV.int .i64 v.2.1)), (.v (CV.int .i64 v.2.2.1)), .undef, .undef, .undef, .undef, .undef, .undef, .undef, .undef, .undef, .undef, .undef, .undef, .undef, .undef, .undef, .undef, .undef, .undef, .undef, .undef, .undef, .undef, .undef, .undef, .undef, .undef, .undef, .undef, .undef, .undef, .undef, .undef, .undef, .undef, .undef, .undef, .undef, .undef, .undef, .undef, .undef, .undef, .undef, .undef, .undef, .undef, .undef, .undef, .undef, .undef, .undef, .undef, .undef, .undef, .undef, .undef, .undef, .undef, .undef, .undef, .undef, .undef, .undef, .undef, .undef, .undef, .undef, .undef, .undef, .undef, .undef, .undef, .undef, .undef, .undef, .undef, .undef, .undef, .undef, .undef, .undef, .undef, .undef, .undef, .undef, .undef, .undef, .undef, .undef, .undef, .undef, .undef, .undef, .undef, .undef, .undef, .undef, .undef, .undef, .undef, .undef, .undef, .undef, .undef, .undef, .undef, .undef, .undef, .undef, .undef, .undef, .undef, .undef, .undef, .undef, .undef, .undef, .undef, .undef, .undef, .undef, .undef, .undef, .undef, .undef, .undef, .undef], [([4], (.obj [(.sl true (some 6) v.2.2.2.1), (.v (CV.int .i64 v.2.2.2.2.1))])), ([25], (.obj [(.osl [0, 25] (some 6) 0 v.2.2.2.2.2.1), (.v (CV.int .i64 v.2.2.2.2.2.2.1))])), ([0, 25], (.row false (some 6) v.2.2.2.2.2.2.2))]⟩
def f6_J1 {X : Type} (k : Nat) (K : Bool → Option X) (e79 : CV) (rec1 : (List CV) × Int × Int × (List CV) × Int × Nat × Int × (List CV) → Option X) (v7_5 : (List CV) × Int × Int × (List CV) × Int × Nat × Int × (List CV)) (v89 : (List CV) × Int × Nat × Int × (List CV)) : Option X :=
f19_h k (fun u90 =>
f24_h k (fun u91 =>
(bif (u90.1 != u91.1) then
K (false)
else
(bif (!(u90.2.1 == u91.2)) then
K (false)
else
f18_h k (fun u92 =>
(bif (u92.1 != (Nat.cast ((List.length v89.1)) : Int)) then
K (false)
else
f13_h k (fun u93 =>
f25_h k (fun u94 =>
(bif (!(u93.1 == u94)) then
K (false)
else
rec1 (v7_5.1, v7_5.2.1, (IntKind.wrap .i64 (v7_5.2.2.1 + 1)), v89.1, v89.2.1, u93.2.1, u93.2.2.1, u93.2.2.2))) ((CV.agg [(CV.slc (some 6) v89.1), (CV.int .i64 v89.2.1)])) ((CV.toI (CV.cellD 1 e79))) ((CV.toI (CV.cellD 2 e79)))) ((CV.toI (CV.cellD 1 e79))) ((CV.toI (CV.cellD 2 e79))) (u92.2.1) (u92.2.2.1) (u92.2.2.2))) (u90.2.2.1) (u90.2.2.2.1) (u90.2.2.2.2)))) ((CV.agg [(CV.slc (some 6) v89.1), (CV.int .i64 v89.2.1)]))) (v89.2.2.1) (v89.2.2.2.1) (v89.2.2.2.2)
def f6_J2 {X : Type} (k : Nat) (K : Bool → Option X) (e79 : CV) (rec1 : (List CV) × Int × Int × (List CV) × Int × Nat × Int × (List CV) → Option X) (v7_5 : (List CV) × Int × Int × (List CV) × Int × Nat × Int × (List CV)) (v100 : Bool) : Option X :=
(bif v100 then
f11_h k (fun u101 =>
f22_h k (fun u102 =>
f17_h k (fun u103 =>
f16_h k (fun u104 =>
(bif (!u104) then
K (false)
else
f6_J1 k K e79 rec1 v7_5 (u102.1, u102.2.1, u101.2.1, u101.2.2.1, u101.2.2.2.1))) ((List.take u103.1 (List.drop 0 u103.2))) ((List.take u102.2.2.1 (List.drop 0 u102.2.2.2)))) ((List.take u101.1 (List.drop 0 u101.2.2.2.2)))) ((CV.agg [(CV.slc (some 6) v7_5.2.2.2.1), (CV.int .i64 v7_5.2.2.2.2.1)])) ((CV.toI (CV.cellD 4 e79)))) ((CV.toI (CV.cellD 4 e79))) (v7_5.2.2.2.2.2.1) (v7_5.2.2.2.2.2.2.1) (v7_5.2.2.2.2.2.2.2)
else
(bif ((CV.toI (CV.cellD 0 e79)) == 5) then
f23_h k (fun u105 =>
f6_J1 k K e79 rec1 v7_5 ((List.take 0 (List.drop 0 [])), v7_5.2.2.2.2.1, 0, u105.1, u105.2)) (v7_5.2.2.2.2.2.1) (v7_5.2.2.2.2.2.2.1) (v7_5.2.2.2.2.2.2.2)
else
f6_J1 k K e79 rec1 v7_5 (v7_5.2.2.2.1, v7_5.2.2.2.2.1, v7_5.2.2.2.2.2.1, v7_5.2.2.2.2.2.2.1, v7_5.2.2.2.2.2.2.2)))
def f6_J3 {X : Type} (k : Nat) (K : Bool → Option X) (e79 : CV) (rec1 : (List CV) × Int × Int × (List CV) × Int × Nat × Int × (List CV) → Option X) (v7_5 : (List CV) × Int × Int × (List CV) × Int × Nat × Int × (List CV)) (v95 : Bool) : Option X :=
(bif v95 then
f10_h k (fun u96 =>
f20_h k (fun u97 =>
(bif (u96.1 != u97.2.2) then
K (false)
else
f6_J1 k K e79 rec1 v7_5 (u97.1, u97.2.1, u96.2.1, u96.2.2.1, u96.2.2.2))) ((CV.agg [(CV.slc (some 6) v7_5.2.2.2.1), (CV.int .i64 v7_5.2.2.2.2.1)])) ((CV.toI (CV.cellD 1 e79))) ((CV.toI (CV.cellD 2 e79))) ((CV.toL (CV.cellD 3 e79))) ((CV.toI (CV.cellD 4 e79))) ((CV.toI (CV.cellD 5 e79)))) ((CV.toI (CV.cellD 1 e79))) ((CV.toI (CV.cellD 2 e79))) ((CV.toL (CV.cellD 3 e79))) ((CV.toI (CV.cellD 4 e79))) ((CV.toI (CV.cellD 5 e79))) (v7_5.2.2.2.2.2.1) (v7_5.2.2.2.2.2.2.1) (v7_5.2.2.2.2.2.2.2)
else
(bif ((CV.toI (CV.cellD 0 e79)) == 2) then
f14_h k (fun u98 =>
f21b_h k (fun u99 =>
(bif (!(u98.1 == u99.2.2.1)) then
K (false)
else
f6_J1 k K e79 rec1 v7_5 ((List.take u99.1 (List.drop 0 u99.2.2.2)), u99.2.1, u98.2.1, u98.2.2.1, u98.2.2.2))) ((CV.agg [(CV.slc (some 6) v7_5.2.2.2.1), (CV.int .i64 v7_5.2.2.2.2.1)])) ((CV.toI (CV.cellD 1 e79))) ((CV.toI (CV.cellD 2 e79)))) ((CV.toI (CV.cellD 1 e79))) ((CV.toI (CV.cellD 2 e79))) (v7_5.2.2.2.2.2.1) (v7_5.2.2.2.2.2.2.1) (v7_5.2.2.2.2.2.2.2)
else
(bif ((CV.toI (CV.cellD 0 e79)) == 3) then
f6_J2 k K e79 rec1 v7_5 (((CV.toI (CV.cellD 0 e79)) == 3))
else
f6_J2 k K e79 rec1 v7_5 (((CV.toI (CV.cellD 0 e79)) == 4)))))
def f6_T1 {X : Type} (k : Nat) (K : Bool → Option X)   (rec1 : (List CV) × Int × Int × (List CV) × Int × Nat × Int × (List CV) → Option X) (v7_5 : (List CV) × Int × Int × (List CV) × Int × Nat × Int × (List CV)) : Option X :=
(bif (decide (v7_5.2.2.1 < v7_5.2.1)) then
grd (decide (0 ≤ v7_5.2.2.1)) <|
Option.bind (v7_5.1)[(Int.toNat v7_5.2.2.1)]? fun e79 =>
grd (CV.isA 6 e79) <|
grd (CV.isI .i64 (CV.cellD 0 e79)) <|
grd (CV.isI .i64 (CV.cellD 1 e79)) <|
grd (CV.isI .i64 (CV.cellD 2 e79)) <|
grd (CV.isL none (CV.cellD 3 e79)) <|
grd (CV.isI .i64 (CV.cellD 4 e79)) <|
grd (CV.isI .i64 (CV.cellD 5 e79)) <|
(bif ((CV.toI (CV.cellD 0 e79)) == 0) then
f6_J3 k K e79 rec1 v7_5 (((CV.toI (CV.cellD 0 e79)) == 0))
else
f6_J3 k K e79 rec1 v7_5 (((CV.toI (CV.cellD 0 e79)) == 1)))
else
K (true))
def f6_L1 {X : Type} (k : Nat) (K : Bool → Option X)  (rec1 : (List CV) × Int × Int × (List CV) × Int × Nat × Int × (List CV) → Option X) (v : (List CV) × Int × Int × (List CV) × Int × Nat × Int × (List CV)) : Option X := f6_T1 k K   rec1 v
set_option maxRecDepth 100000 in
theorem f6_L1_ev {X : Type} (k : Nat) (K : Out → Option X)  (r1 : St → Option X) (v : (List CV) × Int × Int × (List CV) × Int × Nat × Int × (List CV)) : loopB (f6_cx k) k [.r, .r, .r, .r, .l, .r, .b] (Try.f6.body.getD .skip) (retK (f6_cx k) [] Try.f6.results.toList K) [] r1 (f6_S1 v) = f6_T1 k (fun u => K (f6_out u))   (fun v => r1 (f6_S1 v)) v := by kernel_rfl
theorem f6_L1_it {X : Type} (k : Nat) (K : Out → Option X)  : (fun v => iter (loopB (f6_cx k) k [.r, .r, .r, .r, .l, .r, .b] (Try.f6.body.getD .skip) (retK (f6_cx k) [] Try.f6.results.toList K) []) k (f6_S1 v)) = iterV (f6_L1 k (fun u => K (f6_out u)) ) k :=
  iter_map (fun r1 v => (f6_L1_ev k K  r1 v).trans rfl) k
def f6_T {X : Type} (k : Nat) (K : Bool → Option X) (loop1 : (List CV) × Int × Int × (List CV) × Int × Nat × Int × (List CV) → Option X) (x0 : List CV) : Option X :=
f7_h k (fun u2 =>
(bif (!u2) then
K (false)
else
f15_h k (fun u4 =>
(bif (!u4) then
K (true)
else
f8_h k (fun u5 =>
loop1 (x0, (Nat.cast ((List.length x0)) : Int), 0, (List.take 0 (List.drop 0 [])), 0, 0, 0, u5)) )) (x0))) 
/-- "outpost/outpostlaw12.ExchPlays" -/
def f6 {X : Type} (k : Nat) (K : Bool → Option X) (x0 : List CV) : Option X := f6_T k K (iterV (f6_L1 k K) k) x0
set_option maxRecDepth 100000 in
theorem f6_ev' {X : Type} (k : Nat) (K : Out → Option X) (x0 : List CV) : evFn (f6_cx k) [] k Try.f6.ntmps Try.f6.results.toList (Try.f6.body.getD .skip) [(.sl true (some 6) x0)] [] K = f6_T k (fun u => K (f6_out u)) (fun v => iter (loopB (f6_cx k) k [.r, .r, .r, .r, .l, .r, .b] (Try.f6.body.getD .skip) (retK (f6_cx k) [] Try.f6.results.toList K) []) k (f6_S1 v)) x0 := by kernel_rfl
theorem f6_ev {X : Type} (k : Nat) (K : Out → Option X) (x0 : List CV) : evFn (f6_cx k) [] k Try.f6.ntmps Try.f6.results.toList (Try.f6.body.getD .skip) [(.sl true (some 6) x0)] [] K = f6 k (fun u => K (f6_out u)) x0 := (f6_ev' k K x0).trans (by rw [f6_L1_it k K]; rfl)
def f6_c (k : Nat) : FnC := fun X xs ns K => match xs, ns with
  | [(.sl true (some 6) x0)], [] => f6 k (fun u => K (f6_out u)) x0
  | _, _ => none
theorem f6_ok (k : Nat) : AnsOk Try.prog 6 (f6_c k) := by
  intro X xs ns K x h
  unfold f6_c at h ⊢
  split at h
  · exact ans_main S (f6_Cok k) Try.func6 (ent_of Try.func6 (by kernel_rfl) rfl) rfl (fun X K => f6_ev k K _) h
  · cases h
end

end Go.Proofs.YtlmefodpnhpghaaD
