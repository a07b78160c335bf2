/- Functions of the program, as plain Lean functions: each with the proof that the evaluator computes it. (Printed by wip/dec/dec.py.) -/
import Derived.Test.YtpgmebpkagbmoaaTN
import Derived.Test.YtpgmebpkagbmoaaTO
import Derived.Test.YtpgmebpkagbmoaaProg
import Derived.Test.YtpgmebpkagbmoaaChecked
namespace Go.Proofs.YtpgmebpkagbmoaaD
open Go Go.Proofs.YtpgmebpkagbmoaaS Go.Proofs
set_option linter.unusedVariables false
def rows : List (Nat × TI) := [
  (2, ⟨(.int .i64), 1, 8, .v (.int .i64 0)⟩),
  (3, ⟨(.int .i64), 1, 8, .v (.int .i64 0)⟩),
  (4, ⟨.bool, 1, 1, .v (.bool false)⟩),
  (5, ⟨(.int .u8), 1, 1, .v (.int .u8 0)⟩),
  (9, ⟨.str, 1, 16, .v (.str ⟨#[]⟩)⟩),
  (22, ⟨(.slice 30), 1, 24, .nil0 (some 5)⟩),
  (25, ⟨(.ptr 44), 1, 8, .v .nilp⟩),
  (27, ⟨(.slice 52), 1, 24, .nil0 (some 4)⟩),
  (28, ⟨(.slice 5), 1, 24, .nil0 none⟩),
  (30, ⟨(.struct [(0, 3), (1, 3), (2, 3), (3, 2), (4, 28)]), 5, 56, .agg [.v (.int .i64 0), .v (.int .i64 0), .v (.int .i64 0), .v (.int .i64 0), .nil0 none]⟩),
  (42, ⟨(.slice 48), 1, 24, .nil0 (some 4)⟩),
  (44, ⟨(.struct [(0, 42)]), 1, 24, .agg [.nil0 (some 4)]⟩),
  (48, ⟨(.struct [(0, 3), (1, 3), (2, 2), (3, 28)]), 4, 48, .agg [.v (.int .i64 0), .v (.int .i64 0), .v (.int .i64 0), .nil0 none]⟩),
  (52, ⟨(.struct [(0, 3), (1, 3), (2, 2), (3, 28)]), 4, 48, .agg [.v (.int .i64 0), .v (.int .i64 0), .v (.int .i64 0), .nil0 none]⟩)]
set_option maxRecDepth 100000 in
theorem rows_ok : rowsAre Try.prog rows = true := by kernel_rfl
def S : Seat Try.prog := ⟨rows, rows_ok, Try.checked.mixed⟩
def md (g : FuncId) (i : Nat) : Nat := (bif Nat.beq g 19 && Nat.beq i 0 then 2 else 0)
def setCell {X : Type} (e : CV) (j : Nat) (c : CV) (K : CV → Option X) : Option X := match e with
  | .agg ds => grd (Nat.blt j ds.length) (K (.agg (ds.set j c)))
  | _ => none
def f8_plan : Nat → Option (List Nat × List Wk)
  | 0 => some ([], [])
  | 1 => some ([], [])
  | _ => none
def f8_C (k : Nat) : Fns := noC
theorem f8_Cok (k : Nat) : CsOk Try.prog (f8_C k) := noC_ok
def f8_cx (k : Nat) : Cx := mkCx (tabOf rows) (f8_C k) md f8_plan (f8_Cok k)
def f8_out (u : (List CV)) : Out := ⟨(.ptr [2000] 0 0 0), [([2000], (.obj [(.osl [0, 2000] (some 4) 0 0)])), ([0, 2000], (.row false (some 4) u))]⟩
def f8_T {X : Type} (k : Nat) (K : (List CV) → Option X)   : Option X :=
K ((List.take 0 []))
/-- "outpost/cache.New" -/
def f8 {X : Type} (k : Nat) (K : (List CV) → Option X)  : Option X := f8_T k K  
set_option maxRecDepth 100000 in
theorem f8_ev' {X : Type} (k : Nat) (K : Out → Option X)  : evFn (f8_cx k) [] k Try.f8.ntmps Try.f8.results.toList (Try.f8.body.getD .skip) [] [] K = f8_T k (fun u => K (f8_out u))  := by kernel_rfl
theorem f8_ev {X : Type} (k : Nat) (K : Out → Option X)  : evFn (f8_cx k) [] k Try.f8.ntmps Try.f8.results.toList (Try.f8.body.getD .skip) [] [] K = f8 k (fun u => K (f8_out u))  := (f8_ev' k K ).trans rfl
def f8_c (k : Nat) : FnC := fun X xs ns K => match xs, ns with
  | [], [] => f8 k (fun u => K (f8_out u)) 
  | _, _ => none
theorem f8_ok (k : Nat) : AnsOk Try.prog 8 (f8_c k) := by
  intro X xs ns K x h
  unfold f8_c at h ⊢
  split at h
  · exact ans_main S (f8_Cok k) Try.func8 (ent_of Try.func8 (by kernel_rfl) rfl) rfl (fun X K => f8_ev k K ) h
  · cases h
def f26_plan : Nat → Option (List Nat × List Wk)
  | 0 => some ([0, 1, 2], [])
  | 1 => some ([1, 2, 3], [])
  | _ => none
def f26_C (k : Nat) : Fns := noC
theorem f26_Cok (k : Nat) : CsOk Try.prog (f26_C k) := noC_ok
def f26_cx (k : Nat) : Cx := mkCx (tabOf rows) (f26_C k) md f26_plan (f26_Cok k)
def f26_out (u : Bool) : Out := ⟨(.v (CV.bool u)), []⟩
def f26_T {X : Type} (k : Nat) (K : Bool → Option X)  (x0 : CV) (x1 : Int) (x2 : Int) : Option X :=
grd (CV.isA 4 x0) <|
grd (CV.isI .i64 (CV.cellD 0 x0)) <|
grd (CV.isI .i64 (CV.cellD 1 x0)) <|
grd (CV.isI .i64 (CV.cellD 2 x0)) <|
grd (CV.isL none (CV.cellD 3 x0)) <|
(bif ((CV.toI (CV.cellD 0 x0)) == x1) then
K (((CV.toI (CV.cellD 1 x0)) == x2))
else
K (false))
/-- "(*outpost/cache.Cache).index$1" -/
def f26 {X : Type} (k : Nat) (K : Bool → Option X) (x0 : CV) (x1 : Int) (x2 : Int) : Option X := f26_T k K  x0 x1 x2
set_option maxRecDepth 100000 in
theorem f26_ev' {X : Type} (k : Nat) (K : Out → Option X) (x0 : CV) (x1 : Int) (x2 : Int) : evFn (f26_cx k) [] k Try.f26.ntmps Try.f26.results.toList (Try.f26.body.getD .skip) [(.v x0), (.bptr none (CV.int .i64 x1) 0), (.bptr none (CV.int .i64 x2) 0)] [] K = f26_T k (fun u => K (f26_out u)) x0 x1 x2 := by kernel_rfl
theorem f26_ev {X : Type} (k : Nat) (K : Out → Option X) (x0 : CV) (x1 : Int) (x2 : Int) : evFn (f26_cx k) [] k Try.f26.ntmps Try.f26.results.toList (Try.f26.body.getD .skip) [(.v x0), (.bptr none (CV.int .i64 x1) 0), (.bptr none (CV.int .i64 x2) 0)] [] K = f26 k (fun u => K (f26_out u)) x0 x1 x2 := (f26_ev' k K x0 x1 x2).trans rfl
def f26_c (k : Nat) : FnC := fun X xs ns K => match xs, ns with
  | [(.v x0), (.bptr none (CV.int .i64 x1) 0), (.bptr none (CV.int .i64 x2) 0)], [] => f26 k (fun u => K (f26_out u)) x0 x1 x2
  | _, _ => none
theorem f26_ok (k : Nat) : AnsOk Try.prog 26 (f26_c k) := by
  intro X xs ns K x h
  unfold f26_c at h ⊢
  split at h
  · exact ans_main S (f26_Cok k) Try.func26 (ent_of Try.func26 (by kernel_rfl) rfl) rfl (fun X K => f26_ev k K _ _ _) h
  · cases h
def f25_plan : Nat → Option (List Nat × List Wk)
  | 0 => some ([0, 1], [])
  | 1 => some ([0, 1], [])
  | 2 => some ([0, 1, 7, 8], [])
  | 3 => some ([0, 1, 7, 8], [])
  | 4 => some ([0, 1, 5, 7, 8], [])
  | 5 => some ([5], [])
  | 6 => some ([0, 1, 7, 8], [])
  | 7 => some ([], [])
  | _ => none
def f25_C (k : Nat) : Fns := (orC 26 (f26_c k) noC)
theorem f25_Cok (k : Nat) : CsOk Try.prog (f25_C k) := (orC_ok (f26_ok k) noC_ok)
def f25_cx (k : Nat) : Cx := mkCx (tabOf rows) (f25_C k) md f25_plan (f25_Cok k)
def f25_out (u : Int) : Out := ⟨(.v (CV.int .i64 u)), []⟩
def f25_S1 (v : (List CV) × Int × Int × Int × Int) : St := ⟨[(.sl false (some 4) v.1), (.fn 26 [(.bptr none (CV.int .i64 v.2.1) 0), (.bptr none (CV.int .i64 v.2.2.1) 0)]), .undef, .undef, .undef, .undef, .undef, (.v (CV.int .i64 v.2.2.2.1)), (.v (CV.int .i64 v.2.2.2.2)), .undef, .undef, .undef, .undef, .undef, .undef, .undef, .undef, .undef, .undef], []⟩
def f25_T1 {X : Type} (k : Nat) (K : Int → Option X)   (rec1 : (List CV) × Int × Int × Int × Int → Option X) (v4_0 : (List CV) × Int × Int × Int × Int) : Option X :=
(bif (decide (v4_0.2.2.2.2 < v4_0.2.2.2.1)) then
grd (decide (0 ≤ v4_0.2.2.2.2)) <|
Option.bind (v4_0.1)[(Int.toNat v4_0.2.2.2.2)]? fun e8 =>
f26 k (fun u9 =>
(bif u9 then
K (v4_0.2.2.2.2)
else
rec1 (v4_0.1, v4_0.2.1, v4_0.2.2.1, v4_0.2.2.2.1, (IntKind.wrap .i64 (v4_0.2.2.2.2 + 1))))) (e8) (v4_0.2.1) (v4_0.2.2.1)
else
K ((-1)))
def f25_L1 {X : Type} (k : Nat) (K : Int → Option X)  (rec1 : (List CV) × Int × Int × Int × Int → Option X) (v : (List CV) × Int × Int × Int × Int) : Option X := f25_T1 k K   rec1 v
set_option maxRecDepth 100000 in
theorem f25_L1_ev {X : Type} (k : Nat) (K : Out → Option X)  (r1 : St → Option X) (v : (List CV) × Int × Int × Int × Int) : loopB (f25_cx k) k [.r, .l, .r, .b] (Try.f25.body.getD .skip) (retK (f25_cx k) [] Try.f25.results.toList K) [] r1 (f25_S1 v) = f25_T1 k (fun u => K (f25_out u))   (fun v => r1 (f25_S1 v)) v := by kernel_rfl
theorem f25_L1_it {X : Type} (k : Nat) (K : Out → Option X)  : (fun v => iter (loopB (f25_cx k) k [.r, .l, .r, .b] (Try.f25.body.getD .skip) (retK (f25_cx k) [] Try.f25.results.toList K) []) k (f25_S1 v)) = iterV (f25_L1 k (fun u => K (f25_out u)) ) k :=
  iter_map (fun r1 v => (f25_L1_ev k K  r1 v).trans rfl) k
def f25_T {X : Type} (k : Nat) (K : Int → Option X) (loop1 : (List CV) × Int × Int × Int × Int → Option X) (x0 : List CV) (x1 : Int) (x2 : Int) : Option X :=
loop1 (x0, x1, x2, (Nat.cast ((List.length x0)) : Int), 0)
/-- "slices.IndexFunc[[]outpost/cache.kept,outpost/cache.kept]" -/
def f25 {X : Type} (k : Nat) (K : Int → Option X) (x0 : List CV) (x1 : Int) (x2 : Int) : Option X := f25_T k K (iterV (f25_L1 k K) k) x0 x1 x2
set_option maxRecDepth 100000 in
theorem f25_ev' {X : Type} (k : Nat) (K : Out → Option X) (x0 : List CV) (x1 : Int) (x2 : Int) : evFn (f25_cx k) [] k Try.f25.ntmps Try.f25.results.toList (Try.f25.body.getD .skip) [(.sl false (some 4) x0), (.fn 26 [(.bptr none (CV.int .i64 x1) 0), (.bptr none (CV.int .i64 x2) 0)])] [] K = f25_T k (fun u => K (f25_out u)) (fun v => iter (loopB (f25_cx k) k [.r, .l, .r, .b] (Try.f25.body.getD .skip) (retK (f25_cx k) [] Try.f25.results.toList K) []) k (f25_S1 v)) x0 x1 x2 := by kernel_rfl
theorem f25_ev {X : Type} (k : Nat) (K : Out → Option X) (x0 : List CV) (x1 : Int) (x2 : Int) : evFn (f25_cx k) [] k Try.f25.ntmps Try.f25.results.toList (Try.f25.body.getD .skip) [(.sl false (some 4) x0), (.fn 26 [(.bptr none (CV.int .i64 x1) 0), (.bptr none (CV.int .i64 x2) 0)])] [] K = f25 k (fun u => K (f25_out u)) x0 x1 x2 := (f25_ev' k K x0 x1 x2).trans (by rw [f25_L1_it k K]; rfl)
def f25_c (k : Nat) : FnC := fun X xs ns K => match xs, ns with
  | [(.sl false (some 4) x0), (.fn 26 [(.bptr none (CV.int .i64 x1) 0), (.bptr none (CV.int .i64 x2) 0)])], [] => f25 k (fun u => K (f25_out u)) x0 x1 x2
  | _, _ => none
theorem f25_ok (k : Nat) : AnsOk Try.prog 25 (f25_c k) := by
  intro X xs ns K x h
  unfold f25_c at h ⊢
  split at h
  · exact ans_main S (f25_Cok k) Try.func25 (ent_of Try.func25 (by kernel_rfl) rfl) rfl (fun X K => f25_ev k K _ _ _) h
  · cases h
def f18_plan : Nat → Option (List Nat × List Wk)
  | 0 => some ([0, 1, 2], [])
  | 1 => some ([0, 4, 5], [])
  | _ => none
def f18_C (k : Nat) : Fns := (orC 25 (f25_c k) noC)
theorem f18_Cok (k : Nat) : CsOk Try.prog (f18_C k) := (orC_ok (f25_ok k) noC_ok)
def f18_cx (k : Nat) : Cx := mkCx (tabOf rows) (f18_C k) md f18_plan (f18_Cok k)
def f18_out (u : Int × Nat × (List CV)) : Out := ⟨(.v (CV.int .i64 u.1)), [([1000], (.obj [(.osl [0, 1000] (some 4) 0 u.2.1)])), ([0, 1000], (.row false (some 4) u.2.2))]⟩
def f18_T {X : Type} (k : Nat) (K : Int × Nat × (List CV) → Option X)  (x0 : Int) (x1 : Int) (x2 : Nat) (x3 : List CV) : Option X :=
f25 k (fun u1 =>
K (u1, x2, (List.take (0 + x2) x3))) ((List.take x2 (List.drop 0 x3))) (x0) (x1)
/-- "(*outpost/cache.Cache).index" -/
def f18 {X : Type} (k : Nat) (K : Int × Nat × (List CV) → Option X) (x0 : Int) (x1 : Int) (x2 : Nat) (x3 : List CV) : Option X := f18_T k K  x0 x1 x2 x3
set_option maxRecDepth 100000 in
theorem f18_ev' {X : Type} (k : Nat) (K : Out → Option X) (x0 : Int) (x1 : Int) (x2 : Nat) (x3 : List CV) : evFn (f18_cx k) [] k Try.f18.ntmps Try.f18.results.toList (Try.f18.body.getD .skip) [(.ptr [1000] 0 0 0), (.v (CV.int .i64 x0)), (.v (CV.int .i64 x1))] [([1000], (.obj [(.osl [0, 1000] (some 4) 0 x2)])), ([0, 1000], (.row false (some 4) x3))] K = f18_T k (fun u => K (f18_out u)) x0 x1 x2 x3 := by kernel_rfl
theorem f18_ev {X : Type} (k : Nat) (K : Out → Option X) (x0 : Int) (x1 : Int) (x2 : Nat) (x3 : List CV) : evFn (f18_cx k) [] k Try.f18.ntmps Try.f18.results.toList (Try.f18.body.getD .skip) [(.ptr [1000] 0 0 0), (.v (CV.int .i64 x0)), (.v (CV.int .i64 x1))] [([1000], (.obj [(.osl [0, 1000] (some 4) 0 x2)])), ([0, 1000], (.row false (some 4) x3))] K = f18 k (fun u => K (f18_out u)) x0 x1 x2 x3 := (f18_ev' k K x0 x1 x2 x3).trans rfl
def f18_c (k : Nat) : FnC := fun X xs ns K => match xs, ns with
  | [(.ptr [1000] 0 0 0), (.v (CV.int .i64 x0)), (.v (CV.int .i64 x1))], [([1000], (.obj [(.osl [0, 1000] (some 4) 0 x2)])), ([0, 1000], (.row false (some 4) x3))] => f18 k (fun u => K (f18_out u)) x0 x1 x2 x3
  | _, _ => none
theorem f18_ok (k : Nat) : AnsOk Try.prog 18 (f18_c k) := by
  intro X xs ns K x h
  unfold f18_c at h ⊢
  split at h
  · exact ans_main S (f18_Cok k) Try.func18 (ent_of Try.func18 (by kernel_rfl) rfl) rfl (fun X K => f18_ev k K _ _ _ _) h
  · cases h
def f19_plan : Nat → Option (List Nat × List Wk)
  | 0 => some ([0, 1, 2], [])
  | 1 => some ([0, 1, 2], [])
  | 2 => some ([0, 1, 2], [])
  | 3 => some ([0], [])
  | 4 => some ([0, 1, 2], [])
  | 5 => some ([0, 1, 2, 7], [])
  | 6 => some ([0, 7], [])
  | 7 => some ([0], [])
  | _ => none
def f19_C (k : Nat) : Fns := noC
theorem f19_Cok (k : Nat) : CsOk Try.prog (f19_C k) := noC_ok
def f19_cx (k : Nat) : Cx := mkCx (tabOf rows) (f19_C k) md f19_plan (f19_Cok k)
def f19_out (u : Nat × (List CV)) : Out := ⟨(.osl [2000] (some 4) 0 u.1), [([2000], (.row false (some 4) u.2))]⟩
def f19_T {X : Type} (k : Nat) (K : Nat × (List CV) → Option X)  (x0 : Nat) (x1 : Int) (x2 : Int) (x3 : List CV) : Option X :=
grd (decide (0 ≤ x1)) <|
grd (decide (x1 ≤ x2)) <|
grd (decide (x2 ≤ (Nat.cast (x0) : Int))) <|
grd (decide ((Nat.cast (x0) : Int) ≤ ((Nat.cast ((List.length x3)) : Int) - (0 : Int)))) <|
(bif (x1 == x2) then
K (x0, (List.take (0 + x0) x3))
else
grd (decide (0 ≤ x1)) <|
grd (decide (x1 ≤ ((Nat.cast ((List.length x3)) : Int) - 0))) <|
grd (decide (0 ≤ x2)) <|
grd (decide (x2 ≤ (Nat.cast (x0) : Int))) <|
grd (decide ((Nat.cast (x0) : Int) ≤ (Nat.cast (x0) : Int))) <|
grd (decide (((0 + ((Int.toNat x1) - 0)) + (List.length (List.take (x0 - (Int.toNat x2)) (List.drop (0 + (Int.toNat x2)) x3)))) ≤ (List.length x3))) <|
grd (decide ((Nat.cast ((((Int.toNat x1) - 0) + (List.length (List.take (x0 - (Int.toNat x2)) (List.drop (0 + (Int.toNat x2)) x3))))) : Int) ≤ (Nat.cast (x0) : Int))) <|
grd (decide ((Nat.cast (x0) : Int) ≤ ((Nat.cast ((List.length ((List.take (0 + ((Int.toNat x1) - 0)) x3) ++ (List.take (x0 - (Int.toNat x2)) (List.drop (0 + (Int.toNat x2)) x3)) ++ (List.drop ((0 + ((Int.toNat x1) - 0)) + (List.length (List.take (x0 - (Int.toNat x2)) (List.drop (0 + (Int.toNat x2)) x3)))) x3)))) : Int) - 0))) <|
grd (decide (((0 + (((Int.toNat x1) - 0) + (List.length (List.take (x0 - (Int.toNat x2)) (List.drop (0 + (Int.toNat x2)) x3))))) + (x0 - (((Int.toNat x1) - 0) + (List.length (List.take (x0 - (Int.toNat x2)) (List.drop (0 + (Int.toNat x2)) x3)))))) ≤ (List.length ((List.take (0 + ((Int.toNat x1) - 0)) x3) ++ (List.take (x0 - (Int.toNat x2)) (List.drop (0 + (Int.toNat x2)) x3)) ++ (List.drop ((0 + ((Int.toNat x1) - 0)) + (List.length (List.take (x0 - (Int.toNat x2)) (List.drop (0 + (Int.toNat x2)) x3)))) x3))))) <|
K ((((Int.toNat x1) - 0) + (List.length (List.take (x0 - (Int.toNat x2)) (List.drop (0 + (Int.toNat x2)) x3)))), (List.take (0 + (((Int.toNat x1) - 0) + (List.length (List.take (x0 - (Int.toNat x2)) (List.drop (0 + (Int.toNat x2)) x3))))) ((List.take (0 + (((Int.toNat x1) - 0) + (List.length (List.take (x0 - (Int.toNat x2)) (List.drop (0 + (Int.toNat x2)) x3))))) ((List.take (0 + ((Int.toNat x1) - 0)) x3) ++ (List.take (x0 - (Int.toNat x2)) (List.drop (0 + (Int.toNat x2)) x3)) ++ (List.drop ((0 + ((Int.toNat x1) - 0)) + (List.length (List.take (x0 - (Int.toNat x2)) (List.drop (0 + (Int.toNat x2)) x3)))) x3))) ++ List.replicate (x0 - (((Int.toNat x1) - 0) + (List.length (List.take (x0 - (Int.toNat x2)) (List.drop (0 + (Int.toNat x2)) x3))))) (CV.agg [(CV.int .i64 0), (CV.int .i64 0), (CV.int .i64 0), (CV.slc none [])]) ++ (List.drop ((0 + (((Int.toNat x1) - 0) + (List.length (List.take (x0 - (Int.toNat x2)) (List.drop (0 + (Int.toNat x2)) x3))))) + (x0 - (((Int.toNat x1) - 0) + (List.length (List.take (x0 - (Int.toNat x2)) (List.drop (0 + (Int.toNat x2)) x3)))))) ((List.take (0 + ((Int.toNat x1) - 0)) x3) ++ (List.take (x0 - (Int.toNat x2)) (List.drop (0 + (Int.toNat x2)) x3)) ++ (List.drop ((0 + ((Int.toNat x1) - 0)) + (List.length (List.take (x0 - (Int.toNat x2)) (List.drop (0 + (Int.toNat x2)) x3)))) x3)))))))
/-- "slices.Delete[[]outpost/cache.kept,outpost/cache.kept]" -/
def f19 {X : Type} (k : Nat) (K : Nat × (List CV) → Option X) (x0 : Nat) (x1 : Int) (x2 : Int) (x3 : List CV) : Option X := f19_T k K  x0 x1 x2 x3
set_option maxRecDepth 100000 in
theorem f19_ev' {X : Type} (k : Nat) (K : Out → Option X) (x0 : Nat) (x1 : Int) (x2 : Int) (x3 : List CV) : evFn (f19_cx k) [] k Try.f19.ntmps Try.f19.results.toList (Try.f19.body.getD .skip) [(.osl [1000] (some 4) 0 x0), (.v (CV.int .i64 x1)), (.v (CV.int .i64 x2))] [([1000], (.row false (some 4) x3))] K = f19_T k (fun u => K (f19_out u)) x0 x1 x2 x3 := by kernel_rfl
theorem f19_ev {X : Type} (k : Nat) (K : Out → Option X) (x0 : Nat) (x1 : Int) (x2 : Int) (x3 : List CV) : evFn (f19_cx k) [] k Try.f19.ntmps Try.f19.results.toList (Try.f19.body.getD .skip) [(.osl [1000] (some 4) 0 x0), (.v (CV.int .i64 x1)), (.v (CV.int .i64 x2))] [([1000], (.row false (some 4) x3))] K = f19 k (fun u => K (f19_out u)) x0 x1 x2 x3 := (f19_ev' k K x0 x1 x2 x3).trans rfl
def f19_c (k : Nat) : FnC := fun X xs ns K => match xs, ns with
  | [(.osl [1000] (some 4) 0 x0), (.v (CV.int .i64 x1)), (.v (CV.int .i64 x2))], [([1000], (.row false (some 4) x3))] => f19 k (fun u => K (f19_out u)) x0 x1 x2 x3
  | _, _ => none
theorem f19_ok (k : Nat) : AnsOk Try.prog 19 (f19_c k) := by
  intro X xs ns K x h
  unfold f19_c at h ⊢
  split at h
  · exact ans_main S (f19_Cok k) Try.func19 (ent_of Try.func19 (by kernel_rfl) rfl) rfl (fun X K => f19_ev k K _ _ _ _) h
  · cases h
def f20_plan : Nat → Option (List Nat × List Wk)
  | 0 => some ([0], [])
  | 1 => some ([0], [])
  | _ => none
def f20_C (k : Nat) : Fns := noC
theorem f20_Cok (k : Nat) : CsOk Try.prog (f20_C k) := noC_ok
def f20_cx (k : Nat) : Cx := mkCx (tabOf rows) (f20_C k) md f20_plan (f20_Cok k)
def f20_out (u : Int) : Out := ⟨(.v (CV.int .i64 u)), []⟩
def f20_T {X : Type} (k : Nat) (K : Int → Option X)  (x0 : Int) : Option X :=
K ((if 1099511627776 < (if 0 > x0 then 0 else x0) then 1099511627776 else (if 0 > x0 then 0 else x0)))
/-- "outpost/cache.clock" -/
def f20 {X : Type} (k : Nat) (K : Int → Option X) (x0 : Int) : Option X := f20_T k K  x0
set_option maxRecDepth 100000 in
theorem f20_ev' {X : Type} (k : Nat) (K : Out → Option X) (x0 : Int) : evFn (f20_cx k) [] k Try.f20.ntmps Try.f20.results.toList (Try.f20.body.getD .skip) [(.v (CV.int .i64 x0))] [] K = f20_T k (fun u => K (f20_out u)) x0 := by kernel_rfl
theorem f20_ev {X : Type} (k : Nat) (K : Out → Option X) (x0 : Int) : evFn (f20_cx k) [] k Try.f20.ntmps Try.f20.results.toList (Try.f20.body.getD .skip) [(.v (CV.int .i64 x0))] [] K = f20 k (fun u => K (f20_out u)) x0 := (f20_ev' k K x0).trans rfl
def f20_c (k : Nat) : FnC := fun X xs ns K => match xs, ns with
  | [(.v (CV.int .i64 x0))], [] => f20 k (fun u => K (f20_out u)) x0
  | _, _ => none
theorem f20_ok (k : Nat) : AnsOk Try.prog 20 (f20_c k) := by
  intro X xs ns K x h
  unfold f20_c at h ⊢
  split at h
  · exact ans_main S (f20_Cok k) Try.func20 (ent_of Try.func20 (by kernel_rfl) rfl) rfl (fun X K => f20_ev k K _) h
  · cases h
def f21_plan : Nat → Option (List Nat × List Wk)
  | 0 => some ([0], [])
  | 1 => some ([0], [])
  | 2 => some ([], [])
  | 3 => some ([0], [])
  | _ => none
def f21_cx : Cx := mkCx (tabOf rows) noC md f21_plan (noC_ok (P := Try.prog))
/-- "slices.Clone[[]byte,byte]" -/
def f21 {X : Type} (k : Nat) (K : List CV → Option X) (x0 : List CV) : Option X := grd (decide ((0 + List.length x0) * 1 ≤ 140737488355328)) (K x0)
def f21_out (u : List CV) : Out := ⟨.osl [2000] none 0 (List.length u), [([2000], .row false none u)]⟩
set_option maxRecDepth 100000 in
theorem f21_fn (x0 : List CV) (hl : (decide ((0 + List.length x0) * 1 ≤ 140737488355328)) = true) : FnOk Try.prog 21 [.sl false none x0] [] (f21_out x0) := by
  refine nilsplit (cx := f21_cx) (xs := x0) (p := false) (sh := none) (fuel := 1) (ws := [⟨0, [], some [2000]⟩]) (tabOf_tabOk S.hr) (tabOf_noOther S.hr) (CsOk.fns (noC_ok (P := Try.prog))) S.hm Try.func21 rfl rfl Try.underlying28 (s1 := ⟨[(.sl false none x0), .undef, (.nil0 none), .undef, .undef, .undef, .undef, .undef], []⟩) (s2 := ⟨[(.sl false none x0), .undef, .undef, .undef, .undef, .undef, .undef, .undef], []⟩) (s3 := ⟨[(.sl false none x0), .undef, .undef, (.sl false none x0), .undef, .undef, .undef, .undef], []⟩) ?_ ?_ ?_ rfl ?_ (fun h => ?_) ⟨rfl, rfl⟩
  · kernel_rfl
  · kernel_rfl
  · kernel_rfl
  · refine Eq.trans (b := grd (decide ((0 + List.length x0) * 1 ≤ 140737488355328)) (some ⟨.osl [2000] none 0 (0 + List.length x0), [([2000], .row false none (List.take (0 + (0 + List.length x0)) (List.take 0 [] ++ x0)))]⟩)) (by kernel_rfl) ?_
    rw [hl]
    simp [grd, f21_out]
  · subst h
    kernel_rfl
def f21_c (k : Nat) : FnC := fun X xs ns K => match xs, ns with
  | [.sl false none x0], [] => f21 k (fun u => K (f21_out u)) x0
  | _, _ => none
theorem f21_ok (k : Nat) : AnsOk Try.prog 21 (f21_c k) := by
  intro X xs ns K x h
  unfold f21_c at h ⊢
  split at h
  · next x0 =>
    obtain ⟨h1, h2⟩ := grd_some (show grd (decide ((0 + List.length x0) * 1 ≤ 140737488355328)) (K (f21_out x0)) = some x from h)
    exact ⟨ent_of Try.func21 (by kernel_rfl) rfl, _, f21_fn x0 h1, h2, fun Y K' => by show grd _ _ = _; rw [h1]; rfl⟩
  · cases h
def f22_plan : Nat → Option (List Nat × List Wk)
  | 0 => some ([0], [])
  | 1 => some ([0], [])
  | 2 => some ([0, 3], [])
  | 3 => some ([0, 3, 9, 10, 11], [])
  | 4 => some ([0, 3, 9, 10, 11], [])
  | 5 => some ([0, 3, 4, 5, 9, 10, 11], [])
  | 6 => some ([0, 4, 9, 10, 11], [])
  | 7 => some ([0, 3, 9, 10, 11], [])
  | 8 => some ([3], [])
  | _ => none
def f22_C (k : Nat) : Fns := noC
theorem f22_Cok (k : Nat) : CsOk Try.prog (f22_C k) := noC_ok
def f22_cx (k : Nat) : Cx := mkCx (tabOf rows) (f22_C k) md f22_plan (f22_Cok k)
def f22_out (u : Int × Nat × (List CV)) : Out := ⟨(.v (CV.int .i64 u.1)), [([1000], (.obj [(.osl [0, 1000] (some 4) 0 u.2.1)])), ([0, 1000], (.row false (some 4) u.2.2))]⟩
def f22_S1 (v : Int × Nat × Int × Int × Nat × (List CV)) : St := ⟨[(.ptr [1000] 0 0 0), .undef, .undef, (.v (CV.int .i64 v.1)), .undef, .undef, .undef, .undef, .undef, (.osl [0, 1000] (some 4) 0 v.2.1), (.v (CV.int .i64 v.2.2.1)), (.v (CV.int .i64 v.2.2.2.1)), .undef, .undef, .undef, .undef, .undef, .undef, .undef, .undef, .undef, .undef, .undef, .undef, .undef, .undef, .undef, .undef, .undef, .undef], [([1000], (.obj [(.osl [0, 1000] (some 4) 0 v.2.2.2.2.1)])), ([0, 1000], (.row false (some 4) v.2.2.2.2.2))]⟩
def f22_J1 {X : Type} (k : Nat) (K : Int × Nat × (List CV) → Option X) (rec1 : Int × Nat × Int × Int × Nat × (List CV) → Option X) (v5_0 : Int × Nat × Int × Int × Nat × (List CV)) (v11 : Int) : Option X :=
rec1 (v11, v5_0.2.1, v5_0.2.2.1, (IntKind.wrap .i64 (v5_0.2.2.2.1 + 1)), v5_0.2.2.2.2.1, v5_0.2.2.2.2.2)
def f22_T1 {X : Type} (k : Nat) (K : Int × Nat × (List CV) → Option X)   (rec1 : Int × Nat × Int × Int × Nat × (List CV) → Option X) (v5_0 : Int × Nat × Int × Int × Nat × (List CV)) : Option X :=
(bif (decide (v5_0.2.2.2.1 < v5_0.2.2.1)) then
grd (decide (0 ≤ v5_0.2.2.2.1)) <|
grd (decide (v5_0.2.2.2.1 < (Nat.cast (v5_0.2.1) : Int))) <|
Option.bind (v5_0.2.2.2.2.2)[(0 + (Int.toNat v5_0.2.2.2.1))]? fun e12 =>
grd (CV.isA 4 e12) <|
grd (CV.isI .i64 (CV.cellD 0 e12)) <|
grd (CV.isI .i64 (CV.cellD 1 e12)) <|
grd (CV.isI .i64 (CV.cellD 2 e12)) <|
grd (CV.isL none (CV.cellD 3 e12)) <|
grd (decide (0 ≤ v5_0.1)) <|
grd (decide (v5_0.1 < (Nat.cast (v5_0.2.2.2.2.1) : Int))) <|
Option.bind (v5_0.2.2.2.2.2)[(0 + (Int.toNat v5_0.1))]? fun e13 =>
Option.bind (CV.cell e13 2) fun c14 =>
grd (CV.isI .i64 c14) <|
(bif (decide ((CV.toI (CV.cellD 2 e12)) < (CV.toI c14))) then
f22_J1 k K rec1 v5_0 (v5_0.2.2.2.1)
else
f22_J1 k K rec1 v5_0 (v5_0.1))
else
K (v5_0.1, v5_0.2.2.2.2.1, (List.take (0 + v5_0.2.2.2.2.1) v5_0.2.2.2.2.2)))
def f22_L1 {X : Type} (k : Nat) (K : Int × Nat × (List CV) → Option X)  (rec1 : Int × Nat × Int × Int × Nat × (List CV) → Option X) (v : Int × Nat × Int × Int × Nat × (List CV)) : Option X := f22_T1 k K   rec1 v
set_option maxRecDepth 100000 in
theorem f22_L1_ev {X : Type} (k : Nat) (K : Out → Option X)  (r1 : St → Option X) (v : Int × Nat × Int × Int × Nat × (List CV)) : loopB (f22_cx k) k [.r, .r, .l, .r, .b] (Try.f22.body.getD .skip) (retK (f22_cx k) [] Try.f22.results.toList K) [] r1 (f22_S1 v) = f22_T1 k (fun u => K (f22_out u))   (fun v => r1 (f22_S1 v)) v := by kernel_rfl
theorem f22_L1_it {X : Type} (k : Nat) (K : Out → Option X)  : (fun v => iter (loopB (f22_cx k) k [.r, .r, .l, .r, .b] (Try.f22.body.getD .skip) (retK (f22_cx k) [] Try.f22.results.toList K) []) k (f22_S1 v)) = iterV (f22_L1 k (fun u => K (f22_out u)) ) k :=
  iter_map (fun r1 v => (f22_L1_ev k K  r1 v).trans rfl) k
def f22_T {X : Type} (k : Nat) (K : Int × Nat × (List CV) → Option X) (loop1 : Int × Nat × Int × Int × Nat × (List CV) → Option X) (x0 : Nat) (x1 : List CV) : Option X :=
loop1 (0, x0, (Nat.cast (x0) : Int), 0, x0, x1)
/-- "(*outpost/cache.Cache).eldest" -/
def f22 {X : Type} (k : Nat) (K : Int × Nat × (List CV) → Option X) (x0 : Nat) (x1 : List CV) : Option X := f22_T k K (iterV (f22_L1 k K) k) x0 x1
set_option maxRecDepth 100000 in
theorem f22_ev' {X : Type} (k : Nat) (K : Out → Option X) (x0 : Nat) (x1 : List CV) : evFn (f22_cx k) [] k Try.f22.ntmps Try.f22.results.toList (Try.f22.body.getD .skip) [(.ptr [1000] 0 0 0)] [([1000], (.obj [(.osl [0, 1000] (some 4) 0 x0)])), ([0, 1000], (.row false (some 4) x1))] K = f22_T k (fun u => K (f22_out u)) (fun v => iter (loopB (f22_cx k) k [.r, .r, .l, .r, .b] (Try.f22.body.getD .skip) (retK (f22_cx k) [] Try.f22.results.toList K) []) k (f22_S1 v)) x0 x1 := by kernel_rfl
theorem f22_ev {X : Type} (k : Nat) (K : Out → Option X) (x0 : Nat) (x1 : List CV) : evFn (f22_cx k) [] k Try.f22.ntmps Try.f22.results.toList (Try.f22.body.getD .skip) [(.ptr [1000] 0 0 0)] [([1000], (.obj [(.osl [0, 1000] (some 4) 0 x0)])), ([0, 1000], (.row false (some 4) x1))] K = f22 k (fun u => K (f22_out u)) x0 x1 := (f22_ev' k K x0 x1).trans (by rw [f22_L1_it k K]; rfl)
def f22_c (k : Nat) : FnC := fun X xs ns K => match xs, ns with
  | [(.ptr [1000] 0 0 0)], [([1000], (.obj [(.osl [0, 1000] (some 4) 0 x0)])), ([0, 1000], (.row false (some 4) x1))] => f22 k (fun u => K (f22_out u)) x0 x1
  | _, _ => none
theorem f22_ok (k : Nat) : AnsOk Try.prog 22 (f22_c k) := by
  intro X xs ns K x h
  unfold f22_c at h ⊢
  split at h
  · exact ans_main S (f22_Cok k) Try.func22 (ent_of Try.func22 (by kernel_rfl) rfl) rfl (fun X K => f22_ev k K _ _) h
  · cases h
def f9_plan : Nat → Option (List Nat × List Wk)
  | 0 => some ([0, 1, 2, 3, 4], [])
  | 1 => some ([0, 1, 2, 3, 4, 10], [])
  | 2 => some ([0, 1, 2, 3, 4, 10], [])
  | 3 => some ([0, 1, 2, 3, 4], [])
  | 4 => some ([0], [])
  | 5 => some ([0], [])
  | 6 => some ([0, 11], [])
  | _ => none
def f9_C (k : Nat) : Fns := (orC 18 (f18_c k) (orC 19 (f19_c k) (orC 20 (f20_c k) (orC 21 (f21_c k) (orC 22 (f22_c k) noC)))))
theorem f9_Cok (k : Nat) : CsOk Try.prog (f9_C k) := (orC_ok (f18_ok k) (orC_ok (f19_ok k) (orC_ok (f20_ok k) (orC_ok (f21_ok k) (orC_ok (f22_ok k) noC_ok)))))
def f9_cx (k : Nat) : Cx := mkCx (tabOf rows) (f9_C k) md f9_plan (f9_Cok k)
def f9_out (u : Nat × (List CV)) : Out := ⟨(.tup []), [([1000], (.obj [(.osl [0, 1000] (some 4) 0 u.1)])), ([0, 1000], (.row false (some 4) u.2))]⟩
def f9_J1 {X : Type} (k : Nat) (K : Nat × (List CV) → Option X) (x0 : Int) (x1 : Int) (x2 : Int) (x3 : List CV) (v3 : Nat × (List CV)) : Option X :=
f20 k (fun u4 =>
f21 k (fun u5 =>
grd (decide ((v3.1 + (List.length (List.take 1 (List.drop 0 [(CV.agg [(CV.int .i64 x0), (CV.int .i64 x1), (CV.int .i64 u4), (CV.slc none (List.take (List.length u5) (List.drop 0 u5)))])])))) * 48 ≤ 140737488355328)) <|
(bif (decide ((Nat.cast ((v3.1 + (List.length (List.take 1 (List.drop 0 [(CV.agg [(CV.int .i64 x0), (CV.int .i64 x1), (CV.int .i64 u4), (CV.slc none (List.take (List.length u5) (List.drop 0 u5)))])]))))) : Int) > 8)) then
f22 k (fun u6 =>
f19 k (fun u7 =>
K (u7.1, (List.take (0 + u7.1) u7.2))) (u6.2.1) (u6.1) ((IntKind.wrap .i64 (u6.1 + 1))) (u6.2.2)) ((v3.1 + (List.length (List.take 1 (List.drop 0 [(CV.agg [(CV.int .i64 x0), (CV.int .i64 x1), (CV.int .i64 u4), (CV.slc none (List.take (List.length u5) (List.drop 0 u5)))])]))))) (((List.take v3.1 v3.2) ++ (List.take 1 (List.drop 0 [(CV.agg [(CV.int .i64 x0), (CV.int .i64 x1), (CV.int .i64 u4), (CV.slc none (List.take (List.length u5) (List.drop 0 u5)))])]))))
else
K ((v3.1 + (List.length (List.take 1 (List.drop 0 [(CV.agg [(CV.int .i64 x0), (CV.int .i64 x1), (CV.int .i64 u4), (CV.slc none (List.take (List.length u5) (List.drop 0 u5)))])])))), (List.take (0 + (v3.1 + (List.length (List.take 1 (List.drop 0 [(CV.agg [(CV.int .i64 x0), (CV.int .i64 x1), (CV.int .i64 u4), (CV.slc none (List.take (List.length u5) (List.drop 0 u5)))])]))))) ((List.take v3.1 v3.2) ++ (List.take 1 (List.drop 0 [(CV.agg [(CV.int .i64 x0), (CV.int .i64 x1), (CV.int .i64 u4), (CV.slc none (List.take (List.length u5) (List.drop 0 u5)))])]))))))) (x3)) (x2)
def f9_T {X : Type} (k : Nat) (K : Nat × (List CV) → Option X)  (x0 : Int) (x1 : Int) (x2 : Int) (x3 : List CV) (x4 : Nat) (x5 : List CV) : Option X :=
f18 k (fun u8 =>
(bif (decide (u8.1 ≥ 0)) then
f19 k (fun u9 =>
f9_J1 k K x0 x1 x2 x3 (u9.1, u9.2)) (u8.2.1) (u8.1) ((IntKind.wrap .i64 (u8.1 + 1))) (u8.2.2)
else
f9_J1 k K x0 x1 x2 x3 (u8.2.1, u8.2.2))) (x0) (x1) (x4) (x5)
/-- "(*outpost/cache.Cache).Keep" -/
def f9 {X : Type} (k : Nat) (K : Nat × (List CV) → Option X) (x0 : Int) (x1 : Int) (x2 : Int) (x3 : List CV) (x4 : Nat) (x5 : List CV) : Option X := f9_T k K  x0 x1 x2 x3 x4 x5
set_option maxRecDepth 100000 in
theorem f9_ev' {X : Type} (k : Nat) (K : Out → Option X) (x0 : Int) (x1 : Int) (x2 : Int) (x3 : List CV) (x4 : Nat) (x5 : List CV) : evFn (f9_cx k) [] k Try.f9.ntmps Try.f9.results.toList (Try.f9.body.getD .skip) [(.ptr [1000] 0 0 0), (.v (CV.int .i64 x0)), (.v (CV.int .i64 x1)), (.v (CV.int .i64 x2)), (.sl false none x3)] [([1000], (.obj [(.osl [0, 1000] (some 4) 0 x4)])), ([0, 1000], (.row false (some 4) x5))] K = f9_T k (fun u => K (f9_out u)) x0 x1 x2 x3 x4 x5 := by kernel_rfl
theorem f9_ev {X : Type} (k : Nat) (K : Out → Option X) (x0 : Int) (x1 : Int) (x2 : Int) (x3 : List CV) (x4 : Nat) (x5 : List CV) : evFn (f9_cx k) [] k Try.f9.ntmps Try.f9.results.toList (Try.f9.body.getD .skip) [(.ptr [1000] 0 0 0), (.v (CV.int .i64 x0)), (.v (CV.int .i64 x1)), (.v (CV.int .i64 x2)), (.sl false none x3)] [([1000], (.obj [(.osl [0, 1000] (some 4) 0 x4)])), ([0, 1000], (.row false (some 4) x5))] K = f9 k (fun u => K (f9_out u)) x0 x1 x2 x3 x4 x5 := (f9_ev' k K x0 x1 x2 x3 x4 x5).trans rfl
def f9_c (k : Nat) : FnC := fun X xs ns K => match xs, ns with
  | [(.ptr [1000] 0 0 0), (.v (CV.int .i64 x0)), (.v (CV.int .i64 x1)), (.v (CV.int .i64 x2)), (.sl false none x3)], [([1000], (.obj [(.osl [0, 1000] (some 4) 0 x4)])), ([0, 1000], (.row false (some 4) x5))] => f9 k (fun u => K (f9_out u)) x0 x1 x2 x3 x4 x5
  | _, _ => none
theorem f9_ok (k : Nat) : AnsOk Try.prog 9 (f9_c k) := by
  intro X xs ns K x h
  unfold f9_c at h ⊢
  split at h
  · exact ans_main S (f9_Cok k) Try.func9 (ent_of Try.func9 (by kernel_rfl) rfl) rfl (fun X K => f9_ev k K _ _ _ _ _ _) h
  · cases h
def f24_plan : Nat → Option (List Nat × List Wk)
  | 0 => some ([0, 1], [])
  | 1 => some ([1, 2], [])
  | _ => none
def f24_C (k : Nat) : Fns := (orC 20 (f20_c k) noC)
theorem f24_Cok (k : Nat) : CsOk Try.prog (f24_C k) := (orC_ok (f20_ok k) noC_ok)
def f24_cx (k : Nat) : Cx := mkCx (tabOf rows) (f24_C k) md f24_plan (f24_Cok k)
def f24_out (u : Bool) : Out := ⟨(.v (CV.bool u)), []⟩
def f24_T {X : Type} (k : Nat) (K : Bool → Option X)  (x0 : CV) (x1 : Int) : Option X :=
grd (CV.isA 4 x0) <|
grd (CV.isI .i64 (CV.cellD 0 x0)) <|
grd (CV.isI .i64 (CV.cellD 1 x0)) <|
grd (CV.isI .i64 (CV.cellD 2 x0)) <|
grd (CV.isL none (CV.cellD 3 x0)) <|
f20 k (fun u1 =>
K ((decide ((IntKind.wrap .i64 (u1 - (CV.toI (CV.cellD 2 x0)))) < 247)))) (x1)
/-- "(outpost/cache.kept).fresh" -/
def f24 {X : Type} (k : Nat) (K : Bool → Option X) (x0 : CV) (x1 : Int) : Option X := f24_T k K  x0 x1
set_option maxRecDepth 100000 in
theorem f24_ev' {X : Type} (k : Nat) (K : Out → Option X) (x0 : CV) (x1 : Int) : evFn (f24_cx k) [] k Try.f24.ntmps Try.f24.results.toList (Try.f24.body.getD .skip) [(.v x0), (.v (CV.int .i64 x1))] [] K = f24_T k (fun u => K (f24_out u)) x0 x1 := by kernel_rfl
theorem f24_ev {X : Type} (k : Nat) (K : Out → Option X) (x0 : CV) (x1 : Int) : evFn (f24_cx k) [] k Try.f24.ntmps Try.f24.results.toList (Try.f24.body.getD .skip) [(.v x0), (.v (CV.int .i64 x1))] [] K = f24 k (fun u => K (f24_out u)) x0 x1 := (f24_ev' k K x0 x1).trans rfl
def f24_c (k : Nat) : FnC := fun X xs ns K => match xs, ns with
  | [(.v x0), (.v (CV.int .i64 x1))], [] => f24 k (fun u => K (f24_out u)) x0 x1
  | _, _ => none
theorem f24_ok (k : Nat) : AnsOk Try.prog 24 (f24_c k) := by
  intro X xs ns K x h
  unfold f24_c at h ⊢
  split at h
  · exact ans_main S (f24_Cok k) Try.func24 (ent_of Try.func24 (by kernel_rfl) rfl) rfl (fun X K => f24_ev k K _ _) h
  · cases h
def f12_plan : Nat → Option (List Nat × List Wk)
  | 0 => some ([0, 1, 2, 3], [])
  | 1 => some ([0, 1, 2, 3], [])
  | 2 => some ([0, 3, 10], [])
  | 3 => some ([], [])
  | 4 => some ([0, 10], [])
  | _ => none
def f12_C (k : Nat) : Fns := (orC 18 (f18_c k) (orC 21 (f21_c k) (orC 24 (f24_c k) noC)))
theorem f12_Cok (k : Nat) : CsOk Try.prog (f12_C k) := (orC_ok (f18_ok k) (orC_ok (f21_ok k) (orC_ok (f24_ok k) noC_ok)))
def f12_cx (k : Nat) : Cx := mkCx (tabOf rows) (f12_C k) md f12_plan (f12_Cok k)
def f12_out (u : Nat × Bool × Nat × (List CV) × (List CV)) : Out := ⟨(.tup [(.osl [0, 2000] none 0 u.1), (.v (CV.bool u.2.1))]), [([1000], (.obj [(.osl [0, 1000] (some 4) 0 u.2.2.1)])), ([0, 1000], (.row false (some 4) u.2.2.2.1)), ([0, 2000], (.row false none u.2.2.2.2))]⟩
def f12_T {X : Type} (k : Nat) (K : Nat × Bool × Nat × (List CV) × (List CV) → Option X)  (x0 : Int) (x1 : Int) (x2 : Int) (x3 : Nat) (x4 : List CV) : Option X :=
f18 k (fun u1 =>
(bif (decide (u1.1 < 0)) then
K (0, false, u1.2.1, (List.take (0 + u1.2.1) u1.2.2), (List.take 0 []))
else
grd (decide (0 ≤ u1.1)) <|
grd (decide (u1.1 < (Nat.cast (u1.2.1) : Int))) <|
Option.bind (u1.2.2)[(0 + (Int.toNat u1.1))]? fun e4 =>
f24 k (fun u5 =>
(bif (!u5) then
K (0, false, u1.2.1, (List.take (0 + u1.2.1) u1.2.2), (List.take 0 []))
else
grd (decide (0 ≤ u1.1)) <|
grd (decide (u1.1 < (Nat.cast (u1.2.1) : Int))) <|
Option.bind (u1.2.2)[(0 + (Int.toNat u1.1))]? fun e6 =>
Option.bind (CV.cell e6 3) fun c7 =>
grd (CV.isL none c7) <|
f21 k (fun u8 =>
K ((List.length u8), true, u1.2.1, (List.take (0 + u1.2.1) u1.2.2), (List.take (0 + (List.length u8)) u8))) ((CV.toL c7)))) (e4) (x2))) (x0) (x1) (x3) (x4)
/-- "(*outpost/cache.Cache).Find" -/
def f12 {X : Type} (k : Nat) (K : Nat × Bool × Nat × (List CV) × (List CV) → Option X) (x0 : Int) (x1 : Int) (x2 : Int) (x3 : Nat) (x4 : List CV) : Option X := f12_T k K  x0 x1 x2 x3 x4
set_option maxRecDepth 100000 in
theorem f12_ev' {X : Type} (k : Nat) (K : Out → Option X) (x0 : Int) (x1 : Int) (x2 : Int) (x3 : Nat) (x4 : List CV) : evFn (f12_cx k) [⟨0, [0], some [0, 2000]⟩] k Try.f12.ntmps Try.f12.results.toList (Try.f12.body.getD .skip) [(.ptr [1000] 0 0 0), (.v (CV.int .i64 x0)), (.v (CV.int .i64 x1)), (.v (CV.int .i64 x2))] [([1000], (.obj [(.osl [0, 1000] (some 4) 0 x3)])), ([0, 1000], (.row false (some 4) x4))] K = f12_T k (fun u => K (f12_out u)) x0 x1 x2 x3 x4 := by kernel_rfl
theorem f12_ev {X : Type} (k : Nat) (K : Out → Option X) (x0 : Int) (x1 : Int) (x2 : Int) (x3 : Nat) (x4 : List CV) : evFn (f12_cx k) [⟨0, [0], some [0, 2000]⟩] k Try.f12.ntmps Try.f12.results.toList (Try.f12.body.getD .skip) [(.ptr [1000] 0 0 0), (.v (CV.int .i64 x0)), (.v (CV.int .i64 x1)), (.v (CV.int .i64 x2))] [([1000], (.obj [(.osl [0, 1000] (some 4) 0 x3)])), ([0, 1000], (.row false (some 4) x4))] K = f12 k (fun u => K (f12_out u)) x0 x1 x2 x3 x4 := (f12_ev' k K x0 x1 x2 x3 x4).trans rfl
def f12_c (k : Nat) : FnC := fun X xs ns K => match xs, ns with
  | [(.ptr [1000] 0 0 0), (.v (CV.int .i64 x0)), (.v (CV.int .i64 x1)), (.v (CV.int .i64 x2))], [([1000], (.obj [(.osl [0, 1000] (some 4) 0 x3)])), ([0, 1000], (.row false (some 4) x4))] => f12 k (fun u => K (f12_out u)) x0 x1 x2 x3 x4
  | _, _ => none
theorem f12_ok (k : Nat) : AnsOk Try.prog 12 (f12_c k) := by
  intro X xs ns K x h
  unfold f12_c at h ⊢
  split at h
  · exact ans_main S (f12_Cok k) Try.func12 (ent_of Try.func12 (by kernel_rfl) rfl) rfl (fun X K => f12_ev k K _ _ _ _ _) h
  · cases h
def f15_plan : Nat → Option (List Nat × List Wk)
  | 0 => some ([0, 1], [])
  | 1 => some ([0, 1], [])
  | 2 => some ([0, 1, 5], [])
  | 3 => some ([1, 5, 11, 12, 13], [])
  | 4 => some ([1, 5, 11, 12, 13], [])
  | 5 => some ([1, 5, 7, 11, 12, 13], [])
  | 6 => some ([1, 5, 11, 12, 13], [])
  | 7 => some ([1, 5, 11, 12, 13], [])
  | 8 => some ([5], [])
  | _ => none
def f15_C (k : Nat) : Fns := (orC 24 (f24_c k) noC)
theorem f15_Cok (k : Nat) : CsOk Try.prog (f15_C k) := (orC_ok (f24_ok k) noC_ok)
def f15_cx (k : Nat) : Cx := mkCx (tabOf rows) (f15_C k) md f15_plan (f15_Cok k)
def f15_out (u : Int × Nat × (List CV)) : Out := ⟨(.v (CV.int .i64 u.1)), [([1000], (.obj [(.osl [0, 1000] (some 4) 0 u.2.1)])), ([0, 1000], (.row false (some 4) u.2.2))]⟩
def f15_S1 (v : Int × Int × Nat × Int × Int × Nat × (List CV)) : St := ⟨[.undef, (.v (CV.int .i64 v.1)), .undef, .undef, .undef, (.v (CV.int .i64 v.2.1)), .undef, .undef, .undef, .undef, .undef, (.osl [0, 1000] (some 4) 0 v.2.2.1), (.v (CV.int .i64 v.2.2.2.1)), (.v (CV.int .i64 v.2.2.2.2.1)), .undef, .undef, .undef, .undef, .undef, .undef, .undef, .undef, .undef, .undef], [([1000], (.obj [(.osl [0, 1000] (some 4) 0 v.2.2.2.2.2.1)])), ([0, 1000], (.row false (some 4) v.2.2.2.2.2.2))]⟩
def f15_J1 {X : Type} (k : Nat) (K : Int × Nat × (List CV) → Option X) (rec1 : Int × Int × Nat × Int × Int × Nat × (List CV) → Option X) (v5_0 : Int × Int × Nat × Int × Int × Nat × (List CV)) (v8 : Int) : Option X :=
rec1 (v5_0.1, v8, v5_0.2.2.1, v5_0.2.2.2.1, (IntKind.wrap .i64 (v5_0.2.2.2.2.1 + 1)), v5_0.2.2.2.2.2.1, v5_0.2.2.2.2.2.2)
def f15_T1 {X : Type} (k : Nat) (K : Int × Nat × (List CV) → Option X)   (rec1 : Int × Int × Nat × Int × Int × Nat × (List CV) → Option X) (v5_0 : Int × Int × Nat × Int × Int × Nat × (List CV)) : Option X :=
(bif (decide (v5_0.2.2.2.2.1 < v5_0.2.2.2.1)) then
grd (decide (0 ≤ v5_0.2.2.2.2.1)) <|
grd (decide (v5_0.2.2.2.2.1 < (Nat.cast (v5_0.2.2.1) : Int))) <|
Option.bind (v5_0.2.2.2.2.2.2)[(0 + (Int.toNat v5_0.2.2.2.2.1))]? fun e9 =>
grd (CV.isA 4 e9) <|
grd (CV.isI .i64 (CV.cellD 0 e9)) <|
grd (CV.isI .i64 (CV.cellD 1 e9)) <|
grd (CV.isI .i64 (CV.cellD 2 e9)) <|
grd (CV.isL none (CV.cellD 3 e9)) <|
f24 k (fun u10 =>
(bif u10 then
f15_J1 k K rec1 v5_0 ((IntKind.wrap .i64 (v5_0.2.1 + 1)))
else
f15_J1 k K rec1 v5_0 (v5_0.2.1))) ((CV.agg [(CV.int .i64 (CV.toI (CV.cellD 0 e9))), (CV.int .i64 (CV.toI (CV.cellD 1 e9))), (CV.int .i64 (CV.toI (CV.cellD 2 e9))), (CV.slc none (CV.toL (CV.cellD 3 e9)))])) (v5_0.1)
else
K (v5_0.2.1, v5_0.2.2.2.2.2.1, (List.take (0 + v5_0.2.2.2.2.2.1) v5_0.2.2.2.2.2.2)))
def f15_L1 {X : Type} (k : Nat) (K : Int × Nat × (List CV) → Option X)  (rec1 : Int × Int × Nat × Int × Int × Nat × (List CV) → Option X) (v : Int × Int × Nat × Int × Int × Nat × (List CV)) : Option X := f15_T1 k K   rec1 v
set_option maxRecDepth 100000 in
theorem f15_L1_ev {X : Type} (k : Nat) (K : Out → Option X)  (r1 : St → Option X) (v : Int × Int × Nat × Int × Int × Nat × (List CV)) : loopB (f15_cx k) k [.r, .r, .l, .r, .b] (Try.f15.body.getD .skip) (retK (f15_cx k) [] Try.f15.results.toList K) [] r1 (f15_S1 v) = f15_T1 k (fun u => K (f15_out u))   (fun v => r1 (f15_S1 v)) v := by kernel_rfl
theorem f15_L1_it {X : Type} (k : Nat) (K : Out → Option X)  : (fun v => iter (loopB (f15_cx k) k [.r, .r, .l, .r, .b] (Try.f15.body.getD .skip) (retK (f15_cx k) [] Try.f15.results.toList K) []) k (f15_S1 v)) = iterV (f15_L1 k (fun u => K (f15_out u)) ) k :=
  iter_map (fun r1 v => (f15_L1_ev k K  r1 v).trans rfl) k
def f15_T {X : Type} (k : Nat) (K : Int × Nat × (List CV) → Option X) (loop1 : Int × Int × Nat × Int × Int × Nat × (List CV) → Option X) (x0 : Int) (x1 : Nat) (x2 : List CV) : Option X :=
loop1 (x0, 0, x1, (Nat.cast (x1) : Int), 0, x1, x2)
/-- "(*outpost/cache.Cache).Len" -/
def f15 {X : Type} (k : Nat) (K : Int × Nat × (List CV) → Option X) (x0 : Int) (x1 : Nat) (x2 : List CV) : Option X := f15_T k K (iterV (f15_L1 k K) k) x0 x1 x2
set_option maxRecDepth 100000 in
theorem f15_ev' {X : Type} (k : Nat) (K : Out → Option X) (x0 : Int) (x1 : Nat) (x2 : List CV) : evFn (f15_cx k) [] k Try.f15.ntmps Try.f15.results.toList (Try.f15.body.getD .skip) [(.ptr [1000] 0 0 0), (.v (CV.int .i64 x0))] [([1000], (.obj [(.osl [0, 1000] (some 4) 0 x1)])), ([0, 1000], (.row false (some 4) x2))] K = f15_T k (fun u => K (f15_out u)) (fun v => iter (loopB (f15_cx k) k [.r, .r, .l, .r, .b] (Try.f15.body.getD .skip) (retK (f15_cx k) [] Try.f15.results.toList K) []) k (f15_S1 v)) x0 x1 x2 := by kernel_rfl
theorem f15_ev {X : Type} (k : Nat) (K : Out → Option X) (x0 : Int) (x1 : Nat) (x2 : List CV) : evFn (f15_cx k) [] k Try.f15.ntmps Try.f15.results.toList (Try.f15.body.getD .skip) [(.ptr [1000] 0 0 0), (.v (CV.int .i64 x0))] [([1000], (.obj [(.osl [0, 1000] (some 4) 0 x1)])), ([0, 1000], (.row false (some 4) x2))] K = f15 k (fun u => K (f15_out u)) x0 x1 x2 := (f15_ev' k K x0 x1 x2).trans (by rw [f15_L1_it k K]; rfl)
def f15_c (k : Nat) : FnC := fun X xs ns K => match xs, ns with
  | [(.ptr [1000] 0 0 0), (.v (CV.int .i64 x0))], [([1000], (.obj [(.osl [0, 1000] (some 4) 0 x1)])), ([0, 1000], (.row false (some 4) x2))] => f15 k (fun u => K (f15_out u)) x0 x1 x2
  | _, _ => none
theorem f15_ok (k : Nat) : AnsOk Try.prog 15 (f15_c k) := by
  intro X xs ns K x h
  unfold f15_c at h ⊢
  split at h
  · exact ans_main S (f15_Cok k) Try.func15 (ent_of Try.func15 (by kernel_rfl) rfl) rfl (fun X K => f15_ev k K _ _ _) h
  · cases h
def f11_plan : Nat → Option (List Nat × List Wk)
  | 0 => some ([0], [])
  | _ => none
def f11_C (k : Nat) : Fns := noC
theorem f11_Cok (k : Nat) : CsOk Try.prog (f11_C k) := noC_ok
def f11_cx (k : Nat) : Cx := mkCx (tabOf rows) (f11_C k) md f11_plan (f11_Cok k)
def f11_out (u : (List CV)) : Out := ⟨(.tup []), [([1000], (.obj [(.osl [0, 1000] (some 4) 0 0)])), ([0, 1000], (.row false (some 4) u))]⟩
def f11_T {X : Type} (k : Nat) (K : (List CV) → Option X)  (x0 : Nat) (x1 : List CV) : Option X :=
K ((List.take 0 []))
/-- "(*outpost/cache.Cache).Clear" -/
def f11 {X : Type} (k : Nat) (K : (List CV) → Option X) (x0 : Nat) (x1 : List CV) : Option X := f11_T k K  x0 x1
set_option maxRecDepth 100000 in
theorem f11_ev' {X : Type} (k : Nat) (K : Out → Option X) (x0 : Nat) (x1 : List CV) : evFn (f11_cx k) [] k Try.f11.ntmps Try.f11.results.toList (Try.f11.body.getD .skip) [(.ptr [1000] 0 0 0)] [([1000], (.obj [(.osl [0, 1000] (some 4) 0 x0)])), ([0, 1000], (.row false (some 4) x1))] K = f11_T k (fun u => K (f11_out u)) x0 x1 := by kernel_rfl
theorem f11_ev {X : Type} (k : Nat) (K : Out → Option X) (x0 : Nat) (x1 : List CV) : evFn (f11_cx k) [] k Try.f11.ntmps Try.f11.results.toList (Try.f11.body.getD .skip) [(.ptr [1000] 0 0 0)] [([1000], (.obj [(.osl [0, 1000] (some 4) 0 x0)])), ([0, 1000], (.row false (some 4) x1))] K = f11 k (fun u => K (f11_out u)) x0 x1 := (f11_ev' k K x0 x1).trans rfl
def f11_c (k : Nat) : FnC := fun X xs ns K => match xs, ns with
  | [(.ptr [1000] 0 0 0)], [([1000], (.obj [(.osl [0, 1000] (some 4) 0 x0)])), ([0, 1000], (.row false (some 4) x1))] => f11 k (fun u => K (f11_out u)) x0 x1
  | _, _ => none
theorem f11_ok (k : Nat) : AnsOk Try.prog 11 (f11_c k) := by
  intro X xs ns K x h
  unfold f11_c at h ⊢
  split at h
  · exact ans_main S (f11_Cok k) Try.func11 (ent_of Try.func11 (by kernel_rfl) rfl) rfl (fun X K => f11_ev k K _ _) h
  · cases h
def f6_plan : Nat → Option (List Nat × List Wk)
  | 0 => some ([], [])
  | 1 => some ([], [])
  | 2 => some ([1], [])
  | 3 => some ([1], [])
  | 4 => some ([1, 2, 3], [])
  | 5 => some ([1, 2, 3, 5], [])
  | 6 => some ([1, 2, 3, 5, 7], [])
  | 7 => some ([1, 2, 3, 5, 7, 8], [])
  | 8 => some ([1, 2, 3, 5, 7, 8], [])
  | _ => none
def f6_C (k : Nat) : Fns := (orC 8 (f8_c k) (orC 9 (f9_c k) (orC 11 (f11_c k) (orC 12 (f12_c k) (orC 15 (f15_c k) noC)))))
theorem f6_Cok (k : Nat) : CsOk Try.prog (f6_C k) := (orC_ok (f8_ok k) (orC_ok (f9_ok k) (orC_ok (f11_ok k) (orC_ok (f12_ok k) (orC_ok (f15_ok k) noC_ok)))))
def f6_cx (k : Nat) : Cx := mkCx (tabOf rows) (f6_C k) md f6_plan (f6_Cok k)
def f6_out (u : Bool) : Out := ⟨(.v (CV.bool u)), []⟩
def f6_T {X : Type} (k : Nat) (K : Bool → Option X)   : Option X :=
f8 k (fun u1 =>
f9 k (fun u2 =>
f12 k (fun u3 =>
f12 k (fun u4 =>
f12 k (fun u5 =>
f15 k (fun u6 =>
f11 k (fun u7 =>
(bif u3.2.1 then
grd (shEq none none && List.all (List.take u3.1 (List.drop 0 u3.2.2.2.2)) (CV.isI .u8)) <|
(bif ((bytesOf (List.take u3.1 (List.drop 0 u3.2.2.2.2))).toList == (⟨#[97]⟩ : ByteArray).toList) then
(bif (!u4.2.1) then
(bif (!u5.2.1) then
(bif (u6.1 == 1) then
f15 k (fun u8 =>
K ((bif (u8.1 == 0) then true else false))) (10) (0) (u7)
else
K (false))
else
K (false))
else
K (false))
else
K (false))
else
K (false))) (u6.2.1) (u6.2.2)) (10) (u5.2.2.1) (u5.2.2.2.1)) (2) (7) (10) (u4.2.2.1) (u4.2.2.2.1)) (1) (7) (257) (u3.2.2.1) (u3.2.2.2.1)) (1) (7) (256) (u2.1) (u2.2)) (1) (7) (10) ((List.take 1 (List.drop 0 [(CV.int .u8 97)]))) (0) (u1)) 
/-- "outpost/outpostlaw11.alive" -/
def f6 {X : Type} (k : Nat) (K : Bool → Option X)  : Option X := f6_T k K  
set_option maxRecDepth 100000 in
theorem f6_ev' {X : Type} (k : Nat) (K : Out → Option X)  : evFn (f6_cx k) [] k Try.f6.ntmps Try.f6.results.toList (Try.f6.body.getD .skip) [] [] K = f6_T k (fun u => K (f6_out u))  := by kernel_rfl
theorem f6_ev {X : Type} (k : Nat) (K : Out → Option X)  : evFn (f6_cx k) [] k Try.f6.ntmps Try.f6.results.toList (Try.f6.body.getD .skip) [] [] K = f6 k (fun u => K (f6_out u))  := (f6_ev' k K ).trans rfl
def f6_c (k : Nat) : FnC := fun X xs ns K => match xs, ns with
  | [], [] => f6 k (fun u => K (f6_out u)) 
  | _, _ => none
theorem f6_ok (k : Nat) : AnsOk Try.prog 6 (f6_c k) := by
  intro X xs ns K x h
  unfold f6_c at h ⊢
  split at h
  · exact ans_main S (f6_Cok k) Try.func6 (ent_of Try.func6 (by kernel_rfl) rfl) rfl (fun X K => f6_ev k K ) h
  · cases h
def f14_plan : Nat → Option (List Nat × List Wk)
  | 0 => some ([0, 1], [])
  | 1 => some ([0, 1], [])
  | 2 => some ([], [])
  | 3 => some ([0, 1], [])
  | 4 => some ([0, 1, 5], [])
  | 5 => some ([0, 1, 5], [])
  | 6 => some ([0, 1, 5], [])
  | 7 => some ([], [])
  | 8 => some ([], [])
  | _ => none
def f14_C (k : Nat) : Fns := noC
theorem f14_Cok (k : Nat) : CsOk Try.prog (f14_C k) := noC_ok
def f14_cx (k : Nat) : Cx := mkCx (tabOf rows) (f14_C k) md f14_plan (f14_Cok k)
def f14_out (u : Bool) : Out := ⟨(.v (CV.bool u)), []⟩
def f14_S1 (v : (List CV) × (List CV) × Int) : St := ⟨[(.sl false none v.1), (.sl false none v.2.1), .undef, .undef, .undef, (.v (CV.int .i64 v.2.2)), .undef, .undef, .undef, .undef, .undef, .undef, .undef, .undef, .undef, .undef, .undef, .undef, .undef, .undef, .undef, .undef, .undef, .undef, .undef, .undef], []⟩
def f14_T1 {X : Type} (k : Nat) (K : Bool → Option X)   (rec1 : (List CV) × (List CV) × Int → Option X) (v5_0 : (List CV) × (List CV) × Int) : Option X :=
(bif (decide (v5_0.2.2 < (Nat.cast ((List.length v5_0.1)) : Int))) then
grd (decide (0 ≤ v5_0.2.2)) <|
Option.bind (v5_0.1)[(Int.toNat v5_0.2.2)]? fun e8 =>
grd (CV.isI .u8 e8) <|
grd (decide (0 ≤ v5_0.2.2)) <|
Option.bind (v5_0.2.1)[(Int.toNat v5_0.2.2)]? fun e9 =>
grd (CV.isI .u8 e9) <|
(bif ((CV.toI e8) != (CV.toI e9)) then
K (false)
else
rec1 (v5_0.1, v5_0.2.1, (IntKind.wrap .i64 (v5_0.2.2 + 1))))
else
K (true))
def f14_L1 {X : Type} (k : Nat) (K : Bool → Option X)  (rec1 : (List CV) × (List CV) × Int → Option X) (v : (List CV) × (List CV) × Int) : Option X := f14_T1 k K   rec1 v
set_option maxRecDepth 100000 in
theorem f14_L1_ev {X : Type} (k : Nat) (K : Out → Option X)  (r1 : St → Option X) (v : (List CV) × (List CV) × Int) : loopB (f14_cx k) k [.r, .r, .l, .r, .b] (Try.f14.body.getD .skip) (retK (f14_cx k) [] Try.f14.results.toList K) [] r1 (f14_S1 v) = f14_T1 k (fun u => K (f14_out u))   (fun v => r1 (f14_S1 v)) v := by kernel_rfl
theorem f14_L1_it {X : Type} (k : Nat) (K : Out → Option X)  : (fun v => iter (loopB (f14_cx k) k [.r, .r, .l, .r, .b] (Try.f14.body.getD .skip) (retK (f14_cx k) [] Try.f14.results.toList K) []) k (f14_S1 v)) = iterV (f14_L1 k (fun u => K (f14_out u)) ) k :=
  iter_map (fun r1 v => (f14_L1_ev k K  r1 v).trans rfl) k
def f14_T {X : Type} (k : Nat) (K : Bool → Option X) (loop1 : (List CV) × (List CV) × Int → Option X) (x0 : List CV) (x1 : List CV) : Option X :=
(bif ((Nat.cast ((List.length x0)) : Int) != (Nat.cast ((List.length x1)) : Int)) then
K (false)
else
loop1 (x0, x1, 0))
/-- "outpost/outpostref01.Same" -/
def f14 {X : Type} (k : Nat) (K : Bool → Option X) (x0 : List CV) (x1 : List CV) : Option X := f14_T k K (iterV (f14_L1 k K) k) x0 x1
set_option maxRecDepth 100000 in
theorem f14_ev' {X : Type} (k : Nat) (K : Out → Option X) (x0 : List CV) (x1 : List CV) : evFn (f14_cx k) [] k Try.f14.ntmps Try.f14.results.toList (Try.f14.body.getD .skip) [(.sl false none x0), (.sl false none x1)] [] K = f14_T k (fun u => K (f14_out u)) (fun v => iter (loopB (f14_cx k) k [.r, .r, .l, .r, .b] (Try.f14.body.getD .skip) (retK (f14_cx k) [] Try.f14.results.toList K) []) k (f14_S1 v)) x0 x1 := by kernel_rfl
theorem f14_ev {X : Type} (k : Nat) (K : Out → Option X) (x0 : List CV) (x1 : List CV) : evFn (f14_cx k) [] k Try.f14.ntmps Try.f14.results.toList (Try.f14.body.getD .skip) [(.sl false none x0), (.sl false none x1)] [] K = f14 k (fun u => K (f14_out u)) x0 x1 := (f14_ev' k K x0 x1).trans (by rw [f14_L1_it k K]; rfl)
def f14_c (k : Nat) : FnC := fun X xs ns K => match xs, ns with
  | [(.sl false none x0), (.sl false none x1)], [] => f14 k (fun u => K (f14_out u)) x0 x1
  | _, _ => none
theorem f14_ok (k : Nat) : AnsOk Try.prog 14 (f14_c k) := by
  intro X xs ns K x h
  unfold f14_c at h ⊢
  split at h
  · exact ans_main S (f14_Cok k) Try.func14 (ent_of Try.func14 (by kernel_rfl) rfl) rfl (fun X K => f14_ev k K _ _) h
  · cases h
def f5_plan : Nat → Option (List Nat × List Wk)
  | 0 => some ([0, 1, 2, 3, 4, 5], [])
  | 1 => some ([0, 1, 2, 3, 4, 5], [])
  | 2 => some ([], [])
  | 3 => some ([0, 1, 2, 3, 4, 5], [])
  | 4 => some ([], [])
  | 5 => some ([0, 1, 2, 3, 4, 5], [])
  | 6 => some ([0, 1, 2, 3, 4, 5, 13], [])
  | 7 => some ([0, 1, 2, 3, 4, 5, 13], [])
  | 8 => some ([0, 1, 2, 3, 4, 5, 13, 14, 15], [])
  | 9 => some ([0, 1, 2, 3, 4, 5, 13, 14, 15, 17], [])
  | _ => none
def f5_C (k : Nat) : Fns := (orC 6 (f6_c k) (orC 8 (f8_c k) (orC 9 (f9_c k) (orC 12 (f12_c k) (orC 14 (f14_c k) (orC 15 (f15_c k) noC))))))
theorem f5_Cok (k : Nat) : CsOk Try.prog (f5_C k) := (orC_ok (f6_ok k) (orC_ok (f8_ok k) (orC_ok (f9_ok k) (orC_ok (f12_ok k) (orC_ok (f14_ok k) (orC_ok (f15_ok k) noC_ok))))))
def f5_cx (k : Nat) : Cx := mkCx (tabOf rows) (f5_C k) md f5_plan (f5_Cok k)
def f5_out (u : Bool) : Out := ⟨(.v (CV.bool u)), []⟩
def f5_T {X : Type} (k : Nat) (K : Bool → Option X)  (x0 : Int) (x1 : Int) (x2 : Int) (x3 : List CV) (x4 : Int) (x5 : Int) : Option X :=
f6 k (fun u2 =>
(bif (!u2) then
K (false)
else
(bif (decide ((Nat.cast ((List.length x3)) : Int) > 1000)) then
K (true)
else
f8 k (fun u3 =>
f9 k (fun u4 =>
f12 k (fun u5 =>
f12 k (fun u6 =>
(bif u5.2.1 then
f14 k (fun u7 =>
(bif u7 then
(bif (x4 == x0) then
(bif (u6.2.1 == (x5 == x1)) then
f15 k (fun u8 =>
K ((u8.1 == 1))) (x2) (u6.2.2.1) (u6.2.2.2.1)
else
K (false))
else
(bif (u6.2.1 == false) then
f15 k (fun u9 =>
K ((u9.1 == 1))) (x2) (u6.2.2.1) (u6.2.2.2.1)
else
K (false)))
else
K (false))) ((List.take u5.1 (List.drop 0 u5.2.2.2.2))) (x3)
else
K (false))) (x4) (x5) (x2) (u5.2.2.1) (u5.2.2.2.1)) (x0) (x1) (x2) (u4.1) (u4.2)) (x0) (x1) (x2) (x3) (0) (u3)) ))) 
/-- "outpost/outpostlaw11.CacheApart" -/
def f5 {X : Type} (k : Nat) (K : Bool → Option X) (x0 : Int) (x1 : Int) (x2 : Int) (x3 : List CV) (x4 : Int) (x5 : Int) : Option X := f5_T k K  x0 x1 x2 x3 x4 x5
set_option maxRecDepth 100000 in
theorem f5_ev' {X : Type} (k : Nat) (K : Out → Option X) (x0 : Int) (x1 : Int) (x2 : Int) (x3 : List CV) (x4 : Int) (x5 : Int) : evFn (f5_cx k) [] k Try.f5.ntmps Try.f5.results.toList (Try.f5.body.getD .skip) [(.v (CV.int .i64 x0)), (.v (CV.int .i64 x1)), (.v (CV.int .i64 x2)), (.sl true none x3), (.v (CV.int .i64 x4)), (.v (CV.int .i64 x5))] [] K = f5_T k (fun u => K (f5_out u)) x0 x1 x2 x3 x4 x5 := by kernel_rfl
theorem f5_ev {X : Type} (k : Nat) (K : Out → Option X) (x0 : Int) (x1 : Int) (x2 : Int) (x3 : List CV) (x4 : Int) (x5 : Int) : evFn (f5_cx k) [] k Try.f5.ntmps Try.f5.results.toList (Try.f5.body.getD .skip) [(.v (CV.int .i64 x0)), (.v (CV.int .i64 x1)), (.v (CV.int .i64 x2)), (.sl true none x3), (.v (CV.int .i64 x4)), (.v (CV.int .i64 x5))] [] K = f5 k (fun u => K (f5_out u)) x0 x1 x2 x3 x4 x5 := (f5_ev' k K x0 x1 x2 x3 x4 x5).trans rfl
def f5_c (k : Nat) : FnC := fun X xs ns K => match xs, ns with
  | [(.v (CV.int .i64 x0)), (.v (CV.int .i64 x1)), (.v (CV.int .i64 x2)), (.sl true none x3), (.v (CV.int .i64 x4)), (.v (CV.int .i64 x5))], [] => f5 k (fun u => K (f5_out u)) x0 x1 x2 x3 x4 x5
  | _, _ => none
theorem f5_ok (k : Nat) : AnsOk Try.prog 5 (f5_c k) := by
  intro X xs ns K x h
  unfold f5_c at h ⊢
  split at h
  · exact ans_main S (f5_Cok k) Try.func5 (ent_of Try.func5 (by kernel_rfl) rfl) rfl (fun X K => f5_ev k K _ _ _ _ _ _) h
  · cases h
def f7_plan : Nat → Option (List Nat × List Wk)
  | 0 => some ([0], [])
  | 1 => some ([0], [])
  | 2 => some ([0, 5, 6, 7], [])
  | 3 => some ([0, 5, 6, 7], [])
  | 4 => some ([0, 4, 5, 6, 7], [])
  | 5 => some ([], [])
  | 6 => some ([0, 5, 6, 7], [])
  | 7 => some ([0], [])
  | _ => none
def f7_C (k : Nat) : Fns := noC
theorem f7_Cok (k : Nat) : CsOk Try.prog (f7_C k) := noC_ok
def f7_cx (k : Nat) : Cx := mkCx (tabOf rows) (f7_C k) md f7_plan (f7_Cok k)
def f7_out (u : Bool) : Out := ⟨(.v (CV.bool u)), []⟩
def f7_S1 (v : (List CV) × (List CV) × Int × Int) : St := ⟨[(.sl false (some 5) v.1), .undef, .undef, .undef, .undef, (.sl false (some 5) v.2.1), (.v (CV.int .i64 v.2.2.1)), (.v (CV.int .i64 v.2.2.2)), .undef, .undef, .undef, .undef, .undef, .undef, .undef, .undef, .undef, .undef, .undef], []⟩
def f7_T1 {X : Type} (k : Nat) (K : Bool → Option X)   (rec1 : (List CV) × (List CV) × Int × Int → Option X) (v4_0 : (List CV) × (List CV) × Int × Int) : Option X :=
(bif (decide (v4_0.2.2.2 < v4_0.2.2.1)) then
grd (decide (0 ≤ v4_0.2.2.2)) <|
Option.bind (v4_0.2.1)[(Int.toNat v4_0.2.2.2)]? fun e5 =>
grd (CV.isA 5 e5) <|
grd (CV.isI .i64 (CV.cellD 0 e5)) <|
grd (CV.isI .i64 (CV.cellD 1 e5)) <|
grd (CV.isI .i64 (CV.cellD 2 e5)) <|
grd (CV.isI .i64 (CV.cellD 3 e5)) <|
grd (CV.isL none (CV.cellD 4 e5)) <|
(bif (decide ((Nat.cast ((List.length (CV.toL (CV.cellD 4 e5)))) : Int) > 200)) then
K (false)
else
rec1 (v4_0.1, v4_0.2.1, v4_0.2.2.1, (IntKind.wrap .i64 (v4_0.2.2.2 + 1))))
else
K ((decide ((Nat.cast ((List.length v4_0.1)) : Int) ≤ 60))))
def f7_L1 {X : Type} (k : Nat) (K : Bool → Option X)  (rec1 : (List CV) × (List CV) × Int × Int → Option X) (v : (List CV) × (List CV) × Int × Int) : Option X := f7_T1 k K   rec1 v
set_option maxRecDepth 100000 in
theorem f7_L1_ev {X : Type} (k : Nat) (K : Out → Option X)  (r1 : St → Option X) (v : (List CV) × (List CV) × Int × Int) : loopB (f7_cx k) k [.r, .l, .r, .b] (Try.f7.body.getD .skip) (retK (f7_cx k) [] Try.f7.results.toList K) [] r1 (f7_S1 v) = f7_T1 k (fun u => K (f7_out u))   (fun v => r1 (f7_S1 v)) v := by kernel_rfl
theorem f7_L1_it {X : Type} (k : Nat) (K : Out → Option X)  : (fun v => iter (loopB (f7_cx k) k [.r, .l, .r, .b] (Try.f7.body.getD .skip) (retK (f7_cx k) [] Try.f7.results.toList K) []) k (f7_S1 v)) = iterV (f7_L1 k (fun u => K (f7_out u)) ) k :=
  iter_map (fun r1 v => (f7_L1_ev k K  r1 v).trans rfl) k
def f7_T {X : Type} (k : Nat) (K : Bool → Option X) (loop1 : (List CV) × (List CV) × Int × Int → Option X) (x0 : List CV) : Option X :=
loop1 (x0, x0, (Nat.cast ((List.length x0)) : Int), 0)
/-- "outpost/outpostlaw11.small" -/
def f7 {X : Type} (k : Nat) (K : Bool → Option X) (x0 : List CV) : Option X := f7_T k K (iterV (f7_L1 k K) k) x0
set_option maxRecDepth 100000 in
theorem f7_ev' {X : Type} (k : Nat) (K : Out → Option X) (x0 : List CV) : evFn (f7_cx k) [] k Try.f7.ntmps Try.f7.results.toList (Try.f7.body.getD .skip) [(.sl false (some 5) x0)] [] K = f7_T k (fun u => K (f7_out u)) (fun v => iter (loopB (f7_cx k) k [.r, .l, .r, .b] (Try.f7.body.getD .skip) (retK (f7_cx k) [] Try.f7.results.toList K) []) k (f7_S1 v)) x0 := by kernel_rfl
theorem f7_ev {X : Type} (k : Nat) (K : Out → Option X) (x0 : List CV) : evFn (f7_cx k) [] k Try.f7.ntmps Try.f7.results.toList (Try.f7.body.getD .skip) [(.sl false (some 5) x0)] [] K = f7 k (fun u => K (f7_out u)) x0 := (f7_ev' k K x0).trans (by rw [f7_L1_it k K]; rfl)
def f7_c (k : Nat) : FnC := fun X xs ns K => match xs, ns with
  | [(.sl false (some 5) x0)], [] => f7 k (fun u => K (f7_out u)) x0
  | _, _ => none
theorem f7_ok (k : Nat) : AnsOk Try.prog 7 (f7_c k) := by
  intro X xs ns K x h
  unfold f7_c at h ⊢
  split at h
  · exact ans_main S (f7_Cok k) Try.func7 (ent_of Try.func7 (by kernel_rfl) rfl) rfl (fun X K => f7_ev k K _) h
  · cases h
def f23_plan : Nat → Option (List Nat × List Wk)
  | 0 => some ([0], [])
  | 1 => some ([0], [])
  | 2 => some ([], [])
  | 3 => some ([0], [])
  | 4 => some ([], [])
  | 5 => some ([0], [])
  | _ => none
def f23_C (k : Nat) : Fns := noC
theorem f23_Cok (k : Nat) : CsOk Try.prog (f23_C k) := noC_ok
def f23_cx (k : Nat) : Cx := mkCx (tabOf rows) (f23_C k) md f23_plan (f23_Cok k)
def f23_out (u : Int) : Out := ⟨(.v (CV.int .i64 u)), []⟩
def f23_T {X : Type} (k : Nat) (K : Int → Option X)  (x0 : Int) : Option X :=
(bif (decide (x0 < 0)) then
K (0)
else
(bif (decide (x0 > 1099511627776)) then
K (1099511627776)
else
K (x0)))
/-- "outpost/outpostref11.Clock" -/
def f23 {X : Type} (k : Nat) (K : Int → Option X) (x0 : Int) : Option X := f23_T k K  x0
set_option maxRecDepth 100000 in
theorem f23_ev' {X : Type} (k : Nat) (K : Out → Option X) (x0 : Int) : evFn (f23_cx k) [] k Try.f23.ntmps Try.f23.results.toList (Try.f23.body.getD .skip) [(.v (CV.int .i64 x0))] [] K = f23_T k (fun u => K (f23_out u)) x0 := by kernel_rfl
theorem f23_ev {X : Type} (k : Nat) (K : Out → Option X) (x0 : Int) : evFn (f23_cx k) [] k Try.f23.ntmps Try.f23.results.toList (Try.f23.body.getD .skip) [(.v (CV.int .i64 x0))] [] K = f23 k (fun u => K (f23_out u)) x0 := (f23_ev' k K x0).trans rfl
def f23_c (k : Nat) : FnC := fun X xs ns K => match xs, ns with
  | [(.v (CV.int .i64 x0))], [] => f23 k (fun u => K (f23_out u)) x0
  | _, _ => none
theorem f23_ok (k : Nat) : AnsOk Try.prog 23 (f23_c k) := by
  intro X xs ns K x h
  unfold f23_c at h ⊢
  split at h
  · exact ans_main S (f23_Cok k) Try.func23 (ent_of Try.func23 (by kernel_rfl) rfl) rfl (fun X K => f23_ev k K _) h
  · cases h
def f17_plan : Nat → Option (List Nat × List Wk)
  | 0 => some ([0], [])
  | 1 => some ([0], [])
  | 2 => some ([0, 3], [])
  | 3 => some ([0, 3, 4], [])
  | 4 => some ([0, 3, 4], [])
  | 5 => some ([0, 3, 4], [])
  | 6 => some ([3], [])
  | _ => none
def f17_C (k : Nat) : Fns := noC
theorem f17_Cok (k : Nat) : CsOk Try.prog (f17_C k) := noC_ok
def f17_cx (k : Nat) : Cx := mkCx (tabOf rows) (f17_C k) md f17_plan (f17_Cok k)
def f17_out (u : Nat × (List CV)) : Out := ⟨(.osl [2000] none 0 u.1), [([2000], (.row false none u.2))]⟩
def f17_S1 (v : (List CV) × Nat × Int × (List CV)) : St := ⟨[(.sl false none v.1), .undef, .undef, (.osl [3] none 0 v.2.1), (.v (CV.int .i64 v.2.2.1)), .undef, .undef, .undef, .undef, .undef, .undef, .undef, .undef, .undef, .undef, .undef, .undef, .undef, .undef, .undef], [([3], (.row false none v.2.2.2))]⟩
def f17_T1 {X : Type} (k : Nat) (K : Nat × (List CV) → Option X)   (rec1 : (List CV) × Nat × Int × (List CV) → Option X) (v5_0 : (List CV) × Nat × Int × (List CV)) : Option X :=
(bif (decide (v5_0.2.2.1 < (Nat.cast ((List.length v5_0.1)) : Int))) then
grd (decide (0 ≤ v5_0.2.2.1)) <|
Option.bind (v5_0.1)[(Int.toNat v5_0.2.2.1)]? fun e5 =>
grd (CV.isI .u8 e5) <|
grd (decide ((v5_0.2.1 + (List.length (List.take 1 (List.drop 0 [(CV.int .u8 (CV.toI e5))])))) * 1 ≤ 140737488355328)) <|
rec1 (v5_0.1, (v5_0.2.1 + (List.length (List.take 1 (List.drop 0 [(CV.int .u8 (CV.toI e5))])))), (IntKind.wrap .i64 (v5_0.2.2.1 + 1)), ((List.take v5_0.2.1 v5_0.2.2.2) ++ (List.take 1 (List.drop 0 [(CV.int .u8 (CV.toI e5))]))))
else
K (v5_0.2.1, (List.take (0 + v5_0.2.1) v5_0.2.2.2)))
def f17_L1 {X : Type} (k : Nat) (K : Nat × (List CV) → Option X)  (rec1 : (List CV) × Nat × Int × (List CV) → Option X) (v : (List CV) × Nat × Int × (List CV)) : Option X := f17_T1 k K   rec1 v
set_option maxRecDepth 100000 in
theorem f17_L1_ev {X : Type} (k : Nat) (K : Out → Option X)  (r1 : St → Option X) (v : (List CV) × Nat × Int × (List CV)) : loopB (f17_cx k) k [.r, .r, .l, .r, .b] (Try.f17.body.getD .skip) (retK (f17_cx k) [] Try.f17.results.toList K) [] r1 (f17_S1 v) = f17_T1 k (fun u => K (f17_out u))   (fun v => r1 (f17_S1 v)) v := by kernel_rfl
theorem f17_L1_it {X : Type} (k : Nat) (K : Out → Option X)  : (fun v => iter (loopB (f17_cx k) k [.r, .r, .l, .r, .b] (Try.f17.body.getD .skip) (retK (f17_cx k) [] Try.f17.results.toList K) []) k (f17_S1 v)) = iterV (f17_L1 k (fun u => K (f17_out u)) ) k :=
  iter_map (fun r1 v => (f17_L1_ev k K  r1 v).trans rfl) k
def f17_T {X : Type} (k : Nat) (K : Nat × (List CV) → Option X) (loop1 : (List CV) × Nat × Int × (List CV) → Option X) (x0 : List CV) : Option X :=
loop1 (x0, 0, 0, [])
/-- "outpost/outpostref01.Copy" -/
def f17 {X : Type} (k : Nat) (K : Nat × (List CV) → Option X) (x0 : List CV) : Option X := f17_T k K (iterV (f17_L1 k K) k) x0
set_option maxRecDepth 100000 in
theorem f17_ev' {X : Type} (k : Nat) (K : Out → Option X) (x0 : List CV) : evFn (f17_cx k) [] k Try.f17.ntmps Try.f17.results.toList (Try.f17.body.getD .skip) [(.sl false none x0)] [] K = f17_T k (fun u => K (f17_out u)) (fun v => iter (loopB (f17_cx k) k [.r, .r, .l, .r, .b] (Try.f17.body.getD .skip) (retK (f17_cx k) [] Try.f17.results.toList K) []) k (f17_S1 v)) x0 := by kernel_rfl
theorem f17_ev {X : Type} (k : Nat) (K : Out → Option X) (x0 : List CV) : evFn (f17_cx k) [] k Try.f17.ntmps Try.f17.results.toList (Try.f17.body.getD .skip) [(.sl false none x0)] [] K = f17 k (fun u => K (f17_out u)) x0 := (f17_ev' k K x0).trans (by rw [f17_L1_it k K]; rfl)
def f17_c (k : Nat) : FnC := fun X xs ns K => match xs, ns with
  | [(.sl false none x0)], [] => f17 k (fun u => K (f17_out u)) x0
  | _, _ => none
theorem f17_ok (k : Nat) : AnsOk Try.prog 17 (f17_c k) := by
  intro X xs ns K x h
  unfold f17_c at h ⊢
  split at h
  · exact ans_main S (f17_Cok k) Try.func17 (ent_of Try.func17 (by kernel_rfl) rfl) rfl (fun X K => f17_ev k K _) h
  · cases h
def f10_plan : Nat → Option (List Nat × List Wk)
  | 0 => some ([0, 1, 2, 3, 4], [])
  | 1 => some ([0, 1, 2, 3, 4], [])
  | 2 => some ([0, 1, 2, 3, 4, 11], [])
  | 3 => some ([0, 1, 2, 3, 4, 11, 12], [])
  | 4 => some ([0, 1, 2, 3, 4, 11, 12], [])
  | 5 => some ([0, 1, 2, 3, 4, 11, 12], [])
  | 6 => some ([0, 1, 2, 3, 4, 11, 12], [])
  | 7 => some ([1, 2, 3, 4, 11], [])
  | 8 => some ([11], [])
  | 9 => some ([11], [])
  | 10 => some ([11], [])
  | 11 => some ([11, 13], [])
  | 12 => some ([11, 13, 14], [])
  | 13 => some ([11, 13, 14], [])
  | 14 => some ([11, 13, 14], [])
  | 15 => some ([11, 14], [])
  | 16 => some ([11, 13], [])
  | 17 => some ([11, 13, 15], [])
  | 18 => some ([11, 13, 15, 16], [])
  | 19 => some ([11, 13, 15, 16], [])
  | 20 => some ([11, 13, 15, 16], [])
  | 21 => some ([11, 13, 15, 16], [])
  | 22 => some ([15], [])
  | _ => none
def f10_C (k : Nat) : Fns := (orC 17 (f17_c k) (orC 23 (f23_c k) noC))
theorem f10_Cok (k : Nat) : CsOk Try.prog (f10_C k) := (orC_ok (f17_ok k) (orC_ok (f23_ok k) noC_ok))
def f10_cx (k : Nat) : Cx := mkCx (tabOf rows) (f10_C k) md f10_plan (f10_Cok k)
def f10_out (u : Nat × (List CV)) : Out := ⟨(.osl [2000] (some 4) 0 u.1), [([2000], (.row false (some 4) u.2))]⟩
def f10_S1 (v : (List CV) × Int × Int × Int × (List CV) × Nat × Int × (List CV)) : St := ⟨[(.sl false (some 4) v.1), (.v (CV.int .i64 v.2.1)), (.v (CV.int .i64 v.2.2.1)), (.v (CV.int .i64 v.2.2.2.1)), (.sl false none v.2.2.2.2.1), .undef, .undef, .undef, .undef, .undef, .undef, (.osl [11] (some 4) 0 v.2.2.2.2.2.1), (.v (CV.int .i64 v.2.2.2.2.2.2.1)), .undef, .undef, .undef, .undef, .undef, .undef, .undef, .undef, .undef, .undef, .undef, .undef, .undef, .undef, .undef, .undef, .undef, .undef, .undef, .undef, .undef, .undef, .undef, .undef, .undef, .undef, .undef, .undef, .undef, .undef, .undef, .undef, .undef, .undef, .undef, .undef, .undef, .undef, .undef, .undef, .undef, .undef, .undef, .undef, .undef, .undef, .undef, .undef, .undef, .undef, .undef, .undef, .undef, .undef, .undef, .undef, .undef, .undef, .undef, .undef, .undef, .undef, .undef, .undef, .undef, .undef, .undef, .undef, .undef, .undef, .undef, .undef, .undef, .undef, .undef, .undef, .undef, .undef, .undef, .undef, .undef, .undef, .undef, .undef], [([11], (.row false (some 4) v.2.2.2.2.2.2.2))]⟩
def f10_S2 (v : Nat × Int × Int × (List CV)) : St := ⟨[.undef, .undef, .undef, .undef, .undef, .undef, .undef, .undef, .undef, .undef, .undef, (.osl [11] (some 4) 0 v.1), .undef, (.v (CV.int .i64 v.2.1)), (.v (CV.int .i64 v.2.2.1)), .undef, .undef, .undef, .undef, .undef, .undef, .undef, .undef, .undef, .undef, .undef, .undef, .undef, .undef, .undef, .undef, .undef, .undef, .undef, .undef, .undef, .undef, .undef, .undef, .undef, .undef, .undef, .undef, .undef, .undef, .undef, .undef, .undef, .undef, .undef, .undef, .undef, .undef, .undef, .undef, .undef, .undef, .undef, .undef, .undef, .undef, .undef, .undef, .undef, .undef, .undef, .undef, .undef, .undef, .undef, .undef, .undef, .undef, .undef, .undef, .undef, .undef, .undef, .undef, .undef, .undef, .undef, .undef, .undef, .undef, .undef, .undef, .undef, .undef, .undef, .undef, .undef, .undef, .undef, .undef, .undef, .undef], [([11], (.row false (some 4) v.2.2.2))]⟩
def f10_S3 (v : Nat × Int × Nat × Int × (List CV) × (List CV)) : St := ⟨[.undef, .undef, .undef, .undef, .undef, .undef, .undef, .undef, .undef, .undef, .undef, (.osl [11] (some 4) 0 v.1), .undef, (.v (CV.int .i64 v.2.1)), .undef, (.osl [15] (some 4) 0 v.2.2.1), (.v (CV.int .i64 v.2.2.2.1)), .undef, .undef, .undef, .undef, .undef, .undef, .undef, .undef, .undef, .undef, .undef, .undef, .undef, .undef, .undef, .undef, .undef, .undef, .undef, .undef, .undef, .undef, .undef, .undef, .undef, .undef, .undef, .undef, .undef, .undef, .undef, .undef, .undef, .undef, .undef, .undef, .undef, .undef, .undef, .undef, .undef, .undef, .undef, .undef, .undef, .undef, .undef, .undef, .undef, .undef, .undef, .undef, .undef, .undef, .undef, .undef, .undef, .undef, .undef, .undef, .undef, .undef, .undef, .undef, .undef, .undef, .undef, .undef, .undef, .undef, .undef, .undef, .undef, .undef, .undef, .undef, .undef, .undef, .undef, .undef], [([11], (.row false (some 4) v.2.2.2.2.1)), ([15], (.row false (some 4) v.2.2.2.2.2))]⟩
def f10_J1 {X : Type} (k : Nat) (K : Nat × (List CV) → Option X) (rec1 : (List CV) × Int × Int × Int × (List CV) × Nat × Int × (List CV) → Option X) (v5_0 : (List CV) × Int × Int × Int × (List CV) × Nat × Int × (List CV)) (v20 : Nat × (List CV)) : Option X :=
rec1 (v5_0.1, v5_0.2.1, v5_0.2.2.1, v5_0.2.2.2.1, v5_0.2.2.2.2.1, v20.1, (IntKind.wrap .i64 (v5_0.2.2.2.2.2.2.1 + 1)), v20.2)
def f10_J2 {X : Type} (k : Nat) (K : Nat × (List CV) → Option X) (rec2 : Nat × Int × Int × (List CV) → Option X) (v9_28 : Nat × Int × Int × (List CV)) (v42 : Int) : Option X :=
rec2 (v9_28.1, v42, (IntKind.wrap .i64 (v9_28.2.2.1 + 1)), v9_28.2.2.2)
def f10_J3 {X : Type} (k : Nat) (K : Nat × (List CV) → Option X) (rec3 : Nat × Int × Nat × Int × (List CV) × (List CV) → Option X) (v11_46 : Nat × Int × Nat × Int × (List CV) × (List CV)) (v51 : Nat × (List CV)) : Option X :=
rec3 (v11_46.1, v11_46.2.1, v51.1, (IntKind.wrap .i64 (v11_46.2.2.2.1 + 1)), v11_46.2.2.2.2.1, v51.2)
def f10_T3 {X : Type} (k : Nat) (K : Nat × (List CV) → Option X)   (rec3 : Nat × Int × Nat × Int × (List CV) × (List CV) → Option X) (v11_46 : Nat × Int × Nat × Int × (List CV) × (List CV)) : Option X :=
(bif (decide (v11_46.2.2.2.1 < (Nat.cast (v11_46.1) : Int))) then
(bif (v11_46.2.2.2.1 != v11_46.2.1) then
grd (decide (0 ≤ v11_46.2.2.2.1)) <|
grd (decide (v11_46.2.2.2.1 < (Nat.cast (v11_46.1) : Int))) <|
Option.bind (v11_46.2.2.2.2.1)[(0 + (Int.toNat v11_46.2.2.2.1))]? fun e52 =>
grd (fitSh (some 4) e52) <|
grd (decide ((v11_46.2.2.1 + (List.length (List.take 1 (List.drop 0 [e52])))) * 48 ≤ 140737488355328)) <|
f10_J3 k K rec3 v11_46 ((v11_46.2.2.1 + (List.length (List.take 1 (List.drop 0 [e52])))), ((List.take v11_46.2.2.1 v11_46.2.2.2.2.2) ++ (List.take 1 (List.drop 0 [e52]))))
else
f10_J3 k K rec3 v11_46 (v11_46.2.2.1, v11_46.2.2.2.2.2))
else
K (v11_46.2.2.1, (List.take (0 + v11_46.2.2.1) v11_46.2.2.2.2.2)))
def f10_L3 {X : Type} (k : Nat) (K : Nat × (List CV) → Option X)  (rec3 : Nat × Int × Nat × Int × (List CV) × (List CV) → Option X) (v : Nat × Int × Nat × Int × (List CV) × (List CV)) : Option X := f10_T3 k K   rec3 v
set_option maxRecDepth 100000 in
theorem f10_L3_ev {X : Type} (k : Nat) (K : Out → Option X)  (r3 : St → Option X) (v : Nat × Int × Nat × Int × (List CV) × (List CV)) : loopB (f10_cx k) k [.r, .r, .r, .r, .r, .r, .r, .r, .l, .r, .b] (Try.f10.body.getD .skip) (retK (f10_cx k) [] Try.f10.results.toList K) [] r3 (f10_S3 v) = f10_T3 k (fun u => K (f10_out u))   (fun v => r3 (f10_S3 v)) v := by kernel_rfl
theorem f10_L3_it {X : Type} (k : Nat) (K : Out → Option X)  : (fun v => iter (loopB (f10_cx k) k [.r, .r, .r, .r, .r, .r, .r, .r, .l, .r, .b] (Try.f10.body.getD .skip) (retK (f10_cx k) [] Try.f10.results.toList K) []) k (f10_S3 v)) = iterV (f10_L3 k (fun u => K (f10_out u)) ) k :=
  iter_map (fun r3 v => (f10_L3_ev k K  r3 v).trans rfl) k
def f10_T2 {X : Type} (k : Nat) (K : Nat × (List CV) → Option X)  (loop3 : Nat × Int × Nat × Int × (List CV) × (List CV) → Option X) (rec2 : Nat × Int × Int × (List CV) → Option X) (v9_28 : Nat × Int × Int × (List CV)) : Option X :=
(bif (decide (v9_28.2.2.1 < (Nat.cast (v9_28.1) : Int))) then
grd (decide (0 ≤ v9_28.2.2.1)) <|
grd (decide (v9_28.2.2.1 < (Nat.cast (v9_28.1) : Int))) <|
Option.bind (v9_28.2.2.2)[(0 + (Int.toNat v9_28.2.2.1))]? fun e43 =>
Option.bind (CV.cell e43 2) fun c44 =>
grd (CV.isI .i64 c44) <|
grd (decide (0 ≤ v9_28.2.1)) <|
grd (decide (v9_28.2.1 < (Nat.cast (v9_28.1) : Int))) <|
Option.bind (v9_28.2.2.2)[(0 + (Int.toNat v9_28.2.1))]? fun e45 =>
Option.bind (CV.cell e45 2) fun c46 =>
grd (CV.isI .i64 c46) <|
(bif (decide ((CV.toI c44) < (CV.toI c46))) then
f10_J2 k K rec2 v9_28 (v9_28.2.2.1)
else
f10_J2 k K rec2 v9_28 (v9_28.2.1))
else
loop3 (v9_28.1, v9_28.2.1, 0, 0, v9_28.2.2.2, []))
def f10_L2 {X : Type} (k : Nat) (K : Nat × (List CV) → Option X)  (rec2 : Nat × Int × Int × (List CV) → Option X) (v : Nat × Int × Int × (List CV)) : Option X := f10_T2 k K  (iterV (f10_L3 k K ) k) rec2 v
set_option maxRecDepth 100000 in
theorem f10_L2_ev {X : Type} (k : Nat) (K : Out → Option X)  (r2 : St → Option X) (v : Nat × Int × Int × (List CV)) : loopB (f10_cx k) k [.r, .r, .r, .r, .r, .r, .l, .r, .b] (Try.f10.body.getD .skip) (retK (f10_cx k) [] Try.f10.results.toList K) [] r2 (f10_S2 v) = f10_T2 k (fun u => K (f10_out u))  (fun v => iter (loopB (f10_cx k) k [.r, .r, .r, .r, .r, .r, .r, .r, .l, .r, .b] (Try.f10.body.getD .skip) (retK (f10_cx k) [] Try.f10.results.toList K) []) k (f10_S3 v)) (fun v => r2 (f10_S2 v)) v := by kernel_rfl
theorem f10_L2_it {X : Type} (k : Nat) (K : Out → Option X)  : (fun v => iter (loopB (f10_cx k) k [.r, .r, .r, .r, .r, .r, .l, .r, .b] (Try.f10.body.getD .skip) (retK (f10_cx k) [] Try.f10.results.toList K) []) k (f10_S2 v)) = iterV (f10_L2 k (fun u => K (f10_out u)) ) k :=
  iter_map (fun r2 v => (f10_L2_ev k K  r2 v).trans (by rw [f10_L3_it k K ]; rfl)) k
def f10_T1 {X : Type} (k : Nat) (K : Nat × (List CV) → Option X)  (loop2 : Nat × Int × Int × (List CV) → Option X) (rec1 : (List CV) × Int × Int × Int × (List CV) × Nat × Int × (List CV) → Option X) (v5_0 : (List CV) × Int × Int × Int × (List CV) × Nat × Int × (List CV)) : Option X :=
(bif (decide (v5_0.2.2.2.2.2.2.1 < (Nat.cast ((List.length v5_0.1)) : Int))) then
grd (decide (0 ≤ v5_0.2.2.2.2.2.2.1)) <|
Option.bind (v5_0.1)[(Int.toNat v5_0.2.2.2.2.2.2.1)]? fun e21 =>
Option.bind (CV.cell e21 0) fun c22 =>
grd (CV.isI .i64 c22) <|
(bif ((CV.toI c22) != v5_0.2.1) then
grd (decide (0 ≤ v5_0.2.2.2.2.2.2.1)) <|
Option.bind (v5_0.1)[(Int.toNat v5_0.2.2.2.2.2.2.1)]? fun e23 =>
grd (fitSh (some 4) e23) <|
grd (decide ((v5_0.2.2.2.2.2.1 + (List.length (List.take 1 (List.drop 0 [e23])))) * 48 ≤ 140737488355328)) <|
f10_J1 k K rec1 v5_0 ((v5_0.2.2.2.2.2.1 + (List.length (List.take 1 (List.drop 0 [e23])))), ((List.take v5_0.2.2.2.2.2.1 v5_0.2.2.2.2.2.2.2) ++ (List.take 1 (List.drop 0 [e23]))))
else
grd (decide (0 ≤ v5_0.2.2.2.2.2.2.1)) <|
Option.bind (v5_0.1)[(Int.toNat v5_0.2.2.2.2.2.2.1)]? fun e24 =>
Option.bind (CV.cell e24 1) fun c25 =>
grd (CV.isI .i64 c25) <|
(bif ((CV.toI c25) != v5_0.2.2.1) then
grd (decide (0 ≤ v5_0.2.2.2.2.2.2.1)) <|
Option.bind (v5_0.1)[(Int.toNat v5_0.2.2.2.2.2.2.1)]? fun e26 =>
grd (fitSh (some 4) e26) <|
grd (decide ((v5_0.2.2.2.2.2.1 + (List.length (List.take 1 (List.drop 0 [e26])))) * 48 ≤ 140737488355328)) <|
f10_J1 k K rec1 v5_0 ((v5_0.2.2.2.2.2.1 + (List.length (List.take 1 (List.drop 0 [e26])))), ((List.take v5_0.2.2.2.2.2.1 v5_0.2.2.2.2.2.2.2) ++ (List.take 1 (List.drop 0 [e26]))))
else
f10_J1 k K rec1 v5_0 (v5_0.2.2.2.2.2.1, v5_0.2.2.2.2.2.2.2)))
else
f23 k (fun u27 =>
f17 k (fun u28 =>
grd (decide ((v5_0.2.2.2.2.2.1 + (List.length (List.take 1 (List.drop 0 [(CV.agg [(CV.int .i64 v5_0.2.1), (CV.int .i64 v5_0.2.2.1), (CV.int .i64 u27), (CV.slc none (List.take u28.1 (List.drop 0 u28.2)))])])))) * 48 ≤ 140737488355328)) <|
(bif (decide ((Nat.cast ((v5_0.2.2.2.2.2.1 + (List.length (List.take 1 (List.drop 0 [(CV.agg [(CV.int .i64 v5_0.2.1), (CV.int .i64 v5_0.2.2.1), (CV.int .i64 u27), (CV.slc none (List.take u28.1 (List.drop 0 u28.2)))])]))))) : Int) ≤ 8)) then
K ((v5_0.2.2.2.2.2.1 + (List.length (List.take 1 (List.drop 0 [(CV.agg [(CV.int .i64 v5_0.2.1), (CV.int .i64 v5_0.2.2.1), (CV.int .i64 u27), (CV.slc none (List.take u28.1 (List.drop 0 u28.2)))])])))), (List.take (0 + (v5_0.2.2.2.2.2.1 + (List.length (List.take 1 (List.drop 0 [(CV.agg [(CV.int .i64 v5_0.2.1), (CV.int .i64 v5_0.2.2.1), (CV.int .i64 u27), (CV.slc none (List.take u28.1 (List.drop 0 u28.2)))])]))))) ((List.take v5_0.2.2.2.2.2.1 v5_0.2.2.2.2.2.2.2) ++ (List.take 1 (List.drop 0 [(CV.agg [(CV.int .i64 v5_0.2.1), (CV.int .i64 v5_0.2.2.1), (CV.int .i64 u27), (CV.slc none (List.take u28.1 (List.drop 0 u28.2)))])])))))
else
loop2 ((v5_0.2.2.2.2.2.1 + (List.length (List.take 1 (List.drop 0 [(CV.agg [(CV.int .i64 v5_0.2.1), (CV.int .i64 v5_0.2.2.1), (CV.int .i64 u27), (CV.slc none (List.take u28.1 (List.drop 0 u28.2)))])])))), 0, 1, ((List.take v5_0.2.2.2.2.2.1 v5_0.2.2.2.2.2.2.2) ++ (List.take 1 (List.drop 0 [(CV.agg [(CV.int .i64 v5_0.2.1), (CV.int .i64 v5_0.2.2.1), (CV.int .i64 u27), (CV.slc none (List.take u28.1 (List.drop 0 u28.2)))])])))))) (v5_0.2.2.2.2.1)) (v5_0.2.2.2.1))
def f10_L1 {X : Type} (k : Nat) (K : Nat × (List CV) → Option X)  (rec1 : (List CV) × Int × Int × Int × (List CV) × Nat × Int × (List CV) → Option X) (v : (List CV) × Int × Int × Int × (List CV) × Nat × Int × (List CV)) : Option X := f10_T1 k K  (iterV (f10_L2 k K ) k) rec1 v
set_option maxRecDepth 100000 in
theorem f10_L1_ev {X : Type} (k : Nat) (K : Out → Option X)  (r1 : St → Option X) (v : (List CV) × Int × Int × Int × (List CV) × Nat × Int × (List CV)) : loopB (f10_cx k) k [.r, .r, .l, .r, .b] (Try.f10.body.getD .skip) (retK (f10_cx k) [] Try.f10.results.toList K) [] r1 (f10_S1 v) = f10_T1 k (fun u => K (f10_out u))  (fun v => iter (loopB (f10_cx k) k [.r, .r, .r, .r, .r, .r, .l, .r, .b] (Try.f10.body.getD .skip) (retK (f10_cx k) [] Try.f10.results.toList K) []) k (f10_S2 v)) (fun v => r1 (f10_S1 v)) v := by kernel_rfl
theorem f10_L1_it {X : Type} (k : Nat) (K : Out → Option X)  : (fun v => iter (loopB (f10_cx k) k [.r, .r, .l, .r, .b] (Try.f10.body.getD .skip) (retK (f10_cx k) [] Try.f10.results.toList K) []) k (f10_S1 v)) = iterV (f10_L1 k (fun u => K (f10_out u)) ) k :=
  iter_map (fun r1 v => (f10_L1_ev k K  r1 v).trans (by rw [f10_L2_it k K ]; rfl)) k
def f10_T {X : Type} (k : Nat) (K : Nat × (List CV) → Option X) (loop1 : (List CV) × Int × Int × Int × (List CV) × Nat × Int × (List CV) → Option X) (x0 : List CV) (x1 : Int) (x2 : Int) (x3 : Int) (x4 : List CV) : Option X :=
loop1 (x0, x1, x2, x3, x4, 0, 0, [])
/-- "outpost/outpostref11.Keep" -/
def f10 {X : Type} (k : Nat) (K : Nat × (List CV) → Option X) (x0 : List CV) (x1 : Int) (x2 : Int) (x3 : Int) (x4 : List CV) : Option X := f10_T k K (iterV (f10_L1 k K) k) x0 x1 x2 x3 x4
set_option maxRecDepth 100000 in
theorem f10_ev' {X : Type} (k : Nat) (K : Out → Option X) (x0 : List CV) (x1 : Int) (x2 : Int) (x3 : Int) (x4 : List CV) : evFn (f10_cx k) [] k Try.f10.ntmps Try.f10.results.toList (Try.f10.body.getD .skip) [(.sl false (some 4) x0), (.v (CV.int .i64 x1)), (.v (CV.int .i64 x2)), (.v (CV.int .i64 x3)), (.sl false none x4)] [] K = f10_T k (fun u => K (f10_out u)) (fun v => iter (loopB (f10_cx k) k [.r, .r, .l, .r, .b] (Try.f10.body.getD .skip) (retK (f10_cx k) [] Try.f10.results.toList K) []) k (f10_S1 v)) x0 x1 x2 x3 x4 := by kernel_rfl
theorem f10_ev {X : Type} (k : Nat) (K : Out → Option X) (x0 : List CV) (x1 : Int) (x2 : Int) (x3 : Int) (x4 : List CV) : evFn (f10_cx k) [] k Try.f10.ntmps Try.f10.results.toList (Try.f10.body.getD .skip) [(.sl false (some 4) x0), (.v (CV.int .i64 x1)), (.v (CV.int .i64 x2)), (.v (CV.int .i64 x3)), (.sl false none x4)] [] K = f10 k (fun u => K (f10_out u)) x0 x1 x2 x3 x4 := (f10_ev' k K x0 x1 x2 x3 x4).trans (by rw [f10_L1_it k K]; rfl)
def f10_c (k : Nat) : FnC := fun X xs ns K => match xs, ns with
  | [(.sl false (some 4) x0), (.v (CV.int .i64 x1)), (.v (CV.int .i64 x2)), (.v (CV.int .i64 x3)), (.sl false none x4)], [] => f10 k (fun u => K (f10_out u)) x0 x1 x2 x3 x4
  | _, _ => none
theorem f10_ok (k : Nat) : AnsOk Try.prog 10 (f10_c k) := by
  intro X xs ns K x h
  unfold f10_c at h ⊢
  split at h
  · exact ans_main S (f10_Cok k) Try.func10 (ent_of Try.func10 (by kernel_rfl) rfl) rfl (fun X K => f10_ev k K _ _ _ _ _) h
  · cases h
def f13_plan : Nat → Option (List Nat × List Wk)
  | 0 => some ([0, 1, 2, 3], [])
  | 1 => some ([0, 1, 2, 3], [])
  | 2 => some ([0, 1, 2, 3, 10], [])
  | 3 => some ([0, 1, 2, 3, 10], [])
  | 4 => some ([0, 1, 2, 3, 10], [])
  | 5 => some ([0, 10], [])
  | 6 => some ([], [])
  | _ => none
def f13_C (k : Nat) : Fns := (orC 23 (f23_c k) noC)
theorem f13_Cok (k : Nat) : CsOk Try.prog (f13_C k) := (orC_ok (f23_ok k) noC_ok)
def f13_cx (k : Nat) : Cx := mkCx (tabOf rows) (f13_C k) md f13_plan (f13_Cok k)
def f13_out (u : (List CV) × Bool) : Out := ⟨(.tup [(.sl true none u.1), (.v (CV.bool u.2))]), []⟩
def f13_S1 (v : (List CV) × Int × Int × Int × Int) : St := ⟨[(.sl false (some 4) v.1), (.v (CV.int .i64 v.2.1)), (.v (CV.int .i64 v.2.2.1)), (.v (CV.int .i64 v.2.2.2.1)), .undef, .undef, .undef, .undef, .undef, .undef, (.v (CV.int .i64 v.2.2.2.2)), .undef, .undef, .undef, .undef, .undef, .undef, .undef, .undef, .undef, .undef, .undef, .undef, .undef, .undef, .undef, .undef, .undef, .undef, .undef, .undef, .undef, .undef, .undef, .undef, .undef, .undef, .undef, .undef, .undef, .undef, .undef, .undef, .undef, .undef, .undef, .undef, .undef, .undef], []⟩
def f13_J1 {X : Type} (k : Nat) (K : (List CV) × Bool → Option X) (rec1 : (List CV) × Int × Int × Int × Int → Option X) (v4_0 : (List CV) × Int × Int × Int × Int) (v29 : Unit) : Option X :=
rec1 (v4_0.1, v4_0.2.1, v4_0.2.2.1, v4_0.2.2.2.1, (IntKind.wrap .i64 (v4_0.2.2.2.2 + 1)))
def f13_T1 {X : Type} (k : Nat) (K : (List CV) × Bool → Option X)   (rec1 : (List CV) × Int × Int × Int × Int → Option X) (v4_0 : (List CV) × Int × Int × Int × Int) : Option X :=
(bif (decide (v4_0.2.2.2.2 < (Nat.cast ((List.length v4_0.1)) : Int))) then
grd (decide (0 ≤ v4_0.2.2.2.2)) <|
Option.bind (v4_0.1)[(Int.toNat v4_0.2.2.2.2)]? fun e30 =>
Option.bind (CV.cell e30 0) fun c31 =>
grd (CV.isI .i64 c31) <|
(bif ((CV.toI c31) == v4_0.2.1) then
grd (decide (0 ≤ v4_0.2.2.2.2)) <|
Option.bind (v4_0.1)[(Int.toNat v4_0.2.2.2.2)]? fun e32 =>
Option.bind (CV.cell e32 1) fun c33 =>
grd (CV.isI .i64 c33) <|
(bif ((CV.toI c33) == v4_0.2.2.1) then
f23 k (fun u34 =>
grd (decide (0 ≤ v4_0.2.2.2.2)) <|
Option.bind (v4_0.1)[(Int.toNat v4_0.2.2.2.2)]? fun e35 =>
Option.bind (CV.cell e35 2) fun c36 =>
grd (CV.isI .i64 c36) <|
(bif (decide ((IntKind.wrap .i64 (u34 - (CV.toI c36))) < 247)) then
grd (decide (0 ≤ v4_0.2.2.2.2)) <|
Option.bind (v4_0.1)[(Int.toNat v4_0.2.2.2.2)]? fun e37 =>
Option.bind (CV.cell e37 3) fun c38 =>
grd (CV.isL none c38) <|
K ((CV.toL c38), true)
else
f13_J1 k K rec1 v4_0 (()))) (v4_0.2.2.2.1)
else
f13_J1 k K rec1 v4_0 (()))
else
f13_J1 k K rec1 v4_0 (()))
else
K ([], false))
def f13_L1 {X : Type} (k : Nat) (K : (List CV) × Bool → Option X)  (rec1 : (List CV) × Int × Int × Int × Int → Option X) (v : (List CV) × Int × Int × Int × Int) : Option X := f13_T1 k K   rec1 v
set_option maxRecDepth 100000 in
theorem f13_L1_ev {X : Type} (k : Nat) (K : Out → Option X)  (r1 : St → Option X) (v : (List CV) × Int × Int × Int × Int) : loopB (f13_cx k) k [.r, .l, .r, .b] (Try.f13.body.getD .skip) (retK (f13_cx k) [⟨0, [0], none⟩] Try.f13.results.toList K) [] r1 (f13_S1 v) = f13_T1 k (fun u => K (f13_out u))   (fun v => r1 (f13_S1 v)) v := by kernel_rfl
theorem f13_L1_it {X : Type} (k : Nat) (K : Out → Option X)  : (fun v => iter (loopB (f13_cx k) k [.r, .l, .r, .b] (Try.f13.body.getD .skip) (retK (f13_cx k) [⟨0, [0], none⟩] Try.f13.results.toList K) []) k (f13_S1 v)) = iterV (f13_L1 k (fun u => K (f13_out u)) ) k :=
  iter_map (fun r1 v => (f13_L1_ev k K  r1 v).trans rfl) k
def f13_T {X : Type} (k : Nat) (K : (List CV) × Bool → Option X) (loop1 : (List CV) × Int × Int × Int × Int → Option X) (x0 : List CV) (x1 : Int) (x2 : Int) (x3 : Int) : Option X :=
loop1 (x0, x1, x2, x3, 0)
/-- "outpost/outpostref11.Find" -/
def f13 {X : Type} (k : Nat) (K : (List CV) × Bool → Option X) (x0 : List CV) (x1 : Int) (x2 : Int) (x3 : Int) : Option X := f13_T k K (iterV (f13_L1 k K) k) x0 x1 x2 x3
set_option maxRecDepth 100000 in
theorem f13_ev' {X : Type} (k : Nat) (K : Out → Option X) (x0 : List CV) (x1 : Int) (x2 : Int) (x3 : Int) : evFn (f13_cx k) [⟨0, [0], none⟩] k Try.f13.ntmps Try.f13.results.toList (Try.f13.body.getD .skip) [(.sl false (some 4) x0), (.v (CV.int .i64 x1)), (.v (CV.int .i64 x2)), (.v (CV.int .i64 x3))] [] K = f13_T k (fun u => K (f13_out u)) (fun v => iter (loopB (f13_cx k) k [.r, .l, .r, .b] (Try.f13.body.getD .skip) (retK (f13_cx k) [⟨0, [0], none⟩] Try.f13.results.toList K) []) k (f13_S1 v)) x0 x1 x2 x3 := by kernel_rfl
theorem f13_ev {X : Type} (k : Nat) (K : Out → Option X) (x0 : List CV) (x1 : Int) (x2 : Int) (x3 : Int) : evFn (f13_cx k) [⟨0, [0], none⟩] k Try.f13.ntmps Try.f13.results.toList (Try.f13.body.getD .skip) [(.sl false (some 4) x0), (.v (CV.int .i64 x1)), (.v (CV.int .i64 x2)), (.v (CV.int .i64 x3))] [] K = f13 k (fun u => K (f13_out u)) x0 x1 x2 x3 := (f13_ev' k K x0 x1 x2 x3).trans (by rw [f13_L1_it k K]; rfl)
def f13_c (k : Nat) : FnC := fun X xs ns K => match xs, ns with
  | [(.sl false (some 4) x0), (.v (CV.int .i64 x1)), (.v (CV.int .i64 x2)), (.v (CV.int .i64 x3))], [] => f13 k (fun u => K (f13_out u)) x0 x1 x2 x3
  | _, _ => none
theorem f13_ok (k : Nat) : AnsOk Try.prog 13 (f13_c k) := by
  intro X xs ns K x h
  unfold f13_c at h ⊢
  split at h
  · exact ans_main S (f13_Cok k) Try.func13 (ent_of Try.func13 (by kernel_rfl) rfl) rfl (fun X K => f13_ev k K _ _ _ _) h
  · cases h
def f16_plan : Nat → Option (List Nat × List Wk)
  | 0 => some ([0, 1], [])
  | 1 => some ([0, 1], [])
  | 2 => some ([0, 1, 5], [])
  | 3 => some ([0, 1, 5, 6], [])
  | 4 => some ([0, 1, 5, 6], [])
  | 5 => some ([0, 1, 5, 6], [])
  | 6 => some ([0, 1, 5, 6], [])
  | 7 => some ([5], [])
  | _ => none
def f16_C (k : Nat) : Fns := (orC 23 (f23_c k) noC)
theorem f16_Cok (k : Nat) : CsOk Try.prog (f16_C k) := (orC_ok (f23_ok k) noC_ok)
def f16_cx (k : Nat) : Cx := mkCx (tabOf rows) (f16_C k) md f16_plan (f16_Cok k)
def f16_out (u : Int) : Out := ⟨(.v (CV.int .i64 u)), []⟩
def f16_S1 (v : (List CV) × Int × Int × Int) : St := ⟨[(.sl false (some 4) v.1), (.v (CV.int .i64 v.2.1)), .undef, .undef, .undef, (.v (CV.int .i64 v.2.2.1)), (.v (CV.int .i64 v.2.2.2)), .undef, .undef, .undef, .undef, .undef, .undef, .undef, .undef, .undef, .undef, .undef, .undef, .undef, .undef, .undef, .undef, .undef, .undef], []⟩
def f16_J1 {X : Type} (k : Nat) (K : Int → Option X) (rec1 : (List CV) × Int × Int × Int → Option X) (v5_0 : (List CV) × Int × Int × Int) (v11 : Int) : Option X :=
rec1 (v5_0.1, v5_0.2.1, v11, (IntKind.wrap .i64 (v5_0.2.2.2 + 1)))
def f16_T1 {X : Type} (k : Nat) (K : Int → Option X)   (rec1 : (List CV) × Int × Int × Int → Option X) (v5_0 : (List CV) × Int × Int × Int) : Option X :=
(bif (decide (v5_0.2.2.2 < (Nat.cast ((List.length v5_0.1)) : Int))) then
f23 k (fun u12 =>
grd (decide (0 ≤ v5_0.2.2.2)) <|
Option.bind (v5_0.1)[(Int.toNat v5_0.2.2.2)]? fun e13 =>
Option.bind (CV.cell e13 2) fun c14 =>
grd (CV.isI .i64 c14) <|
(bif (decide ((IntKind.wrap .i64 (u12 - (CV.toI c14))) < 247)) then
f16_J1 k K rec1 v5_0 ((IntKind.wrap .i64 (v5_0.2.2.1 + 1)))
else
f16_J1 k K rec1 v5_0 (v5_0.2.2.1))) (v5_0.2.1)
else
K (v5_0.2.2.1))
def f16_L1 {X : Type} (k : Nat) (K : Int → Option X)  (rec1 : (List CV) × Int × Int × Int → Option X) (v : (List CV) × Int × Int × Int) : Option X := f16_T1 k K   rec1 v
set_option maxRecDepth 100000 in
theorem f16_L1_ev {X : Type} (k : Nat) (K : Out → Option X)  (r1 : St → Option X) (v : (List CV) × Int × Int × Int) : loopB (f16_cx k) k [.r, .r, .l, .r, .b] (Try.f16.body.getD .skip) (retK (f16_cx k) [] Try.f16.results.toList K) [] r1 (f16_S1 v) = f16_T1 k (fun u => K (f16_out u))   (fun v => r1 (f16_S1 v)) v := by kernel_rfl
theorem f16_L1_it {X : Type} (k : Nat) (K : Out → Option X)  : (fun v => iter (loopB (f16_cx k) k [.r, .r, .l, .r, .b] (Try.f16.body.getD .skip) (retK (f16_cx k) [] Try.f16.results.toList K) []) k (f16_S1 v)) = iterV (f16_L1 k (fun u => K (f16_out u)) ) k :=
  iter_map (fun r1 v => (f16_L1_ev k K  r1 v).trans rfl) k
def f16_T {X : Type} (k : Nat) (K : Int → Option X) (loop1 : (List CV) × Int × Int × Int → Option X) (x0 : List CV) (x1 : Int) : Option X :=
loop1 (x0, x1, 0, 0)
/-- "outpost/outpostref11.Len" -/
def f16 {X : Type} (k : Nat) (K : Int → Option X) (x0 : List CV) (x1 : Int) : Option X := f16_T k K (iterV (f16_L1 k K) k) x0 x1
set_option maxRecDepth 100000 in
theorem f16_ev' {X : Type} (k : Nat) (K : Out → Option X) (x0 : List CV) (x1 : Int) : evFn (f16_cx k) [] k Try.f16.ntmps Try.f16.results.toList (Try.f16.body.getD .skip) [(.sl false (some 4) x0), (.v (CV.int .i64 x1))] [] K = f16_T k (fun u => K (f16_out u)) (fun v => iter (loopB (f16_cx k) k [.r, .r, .l, .r, .b] (Try.f16.body.getD .skip) (retK (f16_cx k) [] Try.f16.results.toList K) []) k (f16_S1 v)) x0 x1 := by kernel_rfl
theorem f16_ev {X : Type} (k : Nat) (K : Out → Option X) (x0 : List CV) (x1 : Int) : evFn (f16_cx k) [] k Try.f16.ntmps Try.f16.results.toList (Try.f16.body.getD .skip) [(.sl false (some 4) x0), (.v (CV.int .i64 x1))] [] K = f16 k (fun u => K (f16_out u)) x0 x1 := (f16_ev' k K x0 x1).trans (by rw [f16_L1_it k K]; rfl)
def f16_c (k : Nat) : FnC := fun X xs ns K => match xs, ns with
  | [(.sl false (some 4) x0), (.v (CV.int .i64 x1))], [] => f16 k (fun u => K (f16_out u)) x0 x1
  | _, _ => none
theorem f16_ok (k : Nat) : AnsOk Try.prog 16 (f16_c k) := by
  intro X xs ns K x h
  unfold f16_c at h ⊢
  split at h
  · exact ans_main S (f16_Cok k) Try.func16 (ent_of Try.func16 (by kernel_rfl) rfl) rfl (fun X K => f16_ev k K _ _) h
  · cases h
def f3_plan : Nat → Option (List Nat × List Wk)
  | 0 => some ([0], [])
  | 1 => some ([0], [])
  | 2 => some ([], [])
  | 3 => some ([0], [])
  | 4 => some ([], [])
  | 5 => some ([0], [])
  | 6 => some ([0, 3], [])
  | 7 => some ([0, 3, 4], [])
  | 8 => some ([3, 4, 18, 19, 20], [])
  | 9 => some ([3, 4, 18, 19, 20], [])
  | 10 => some ([3, 4, 6, 18, 19, 20], [])
  | 11 => some ([3, 4, 6, 18, 19, 20, 25], [])
  | 12 => some ([3, 4, 6, 18, 19, 20, 25], [])
  | 13 => some ([3, 4, 6, 18, 19, 20], [])
  | 14 => some ([3, 4, 6, 18, 19, 20], [])
  | 15 => some ([3, 4, 6, 18, 19, 20, 25], [])
  | 16 => some ([3, 6, 18, 19, 20], [])
  | 17 => some ([3, 6, 18, 19, 20], [])
  | 18 => some ([3, 4, 6, 18, 19, 20], [⟨4, [], some [4]⟩])
  | 19 => some ([3, 4, 6, 7, 8, 18, 19, 20], [])
  | 20 => some ([3, 4, 6, 7, 8, 9, 10, 18, 19, 20], [])
  | 21 => some ([], [])
  | 22 => some ([3, 4, 18, 19, 20], [])
  | 23 => some ([], [])
  | _ => none
def f3_C (k : Nat) : Fns := (orC 6 (f6_c k) (orC 7 (f7_c k) (orC 8 (f8_c k) (orC 9 (f9_c k) (orC 10 (f10_c k) (orC 11 (f11_c k) (orC 12 (f12_c k) (orC 13 (f13_c k) (orC 14 (f14_c k) (orC 15 (f15_c k) (orC 16 (f16_c k) noC)))))))))))
theorem f3_Cok (k : Nat) : CsOk Try.prog (f3_C k) := (orC_ok (f6_ok k) (orC_ok (f7_ok k) (orC_ok (f8_ok k) (orC_ok (f9_ok k) (orC_ok (f10_ok k) (orC_ok (f11_ok k) (orC_ok (f12_ok k) (orC_ok (f13_ok k) (orC_ok (f14_ok k) (orC_ok (f15_ok k) (orC_ok (f16_ok k) noC_ok)))))))))))
def f3_cx (k : Nat) : Cx := mkCx (tabOf rows) (f3_C k) md f3_plan (f3_Cok k)
def f3_out (u : Bool) : Out := ⟨(.v (CV.bool u)), []⟩
def f3_S1 (v : Nat × (List CV) × Int × Int × (List CV) × Nat × (List CV)) : St := ⟨[.undef, .undef, .undef, (.ptr [16] 0 0 0), (.osl [4] (some 4) 0 v.1), .undef, .undef, .undef, .undef, .undef, .undef, .undef, .undef, .undef, .undef, .undef, .undef, .undef, (.sl true (some 5) v.2.1), (.v (CV.int .i64 v.2.2.1)), (.v (CV.int .i64 v.2.2.2.1)), .undef, .undef, .undef, .undef, .undef, .undef, .undef, .undef, .undef, .undef, .undef, .undef, .undef, .undef, .undef, .undef, .undef, .undef, .undef, .undef, .undef, .undef, .undef, .undef, .undef, .undef, .undef, .undef, .undef, .undef, .undef, .undef, .undef, .undef, .undef, .undef, .undef, .undef, .undef, .undef, .undef, .undef, .undef, .undef, .undef, .undef, .undef, .undef, .undef, .undef, .undef, .undef, .undef, .undef, .undef, .undef, .undef, .undef, .undef, .undef, .undef, .undef, .undef, .undef, .undef, .undef, .undef, .undef, .undef, .undef, .undef, .undef, .undef, .undef, .undef], [([4], (.row false (some 4) v.2.2.2.2.1)), ([16], (.obj [(.osl [0, 16] (some 4) 0 v.2.2.2.2.2.1)])), ([0, 16], (.row false (some 4) v.2.2.2.2.2.2))]⟩
def f3_J1 {X : Type} (k : Nat) (K : Bool → Option X) (e43 : CV) (rec1 : Nat × (List CV) × Int × Int × (List CV) × Nat × (List CV) → Option X) (v8_5 : Nat × (List CV) × Int × Int × (List CV) × Nat × (List CV)) (v47 : Nat × (List CV) × Nat × (List CV)) : Option X :=
f12 k (fun u48 =>
f13 k (fun u49 =>
(bif (!(u48.2.1 == u49.2)) then
K (false)
else
f14 k (fun u50 =>
(bif (!u50) then
K (false)
else
f15 k (fun u51 =>
f16 k (fun u52 =>
(bif (u51.1 != u52) then
K (false)
else
rec1 (v47.1, v8_5.2.1, v8_5.2.2.1, (IntKind.wrap .i64 (v8_5.2.2.2.1 + 1)), v47.2.1, u51.2.1, u51.2.2))) ((List.take v47.1 (List.drop 0 v47.2.1))) ((CV.toI (CV.cellD 3 e43)))) ((CV.toI (CV.cellD 3 e43))) (u48.2.2.1) (u48.2.2.2.1))) ((List.take u48.1 (List.drop 0 u48.2.2.2.2))) (u49.1))) ((List.take v47.1 (List.drop 0 v47.2.1))) ((CV.toI (CV.cellD 1 e43))) ((CV.toI (CV.cellD 2 e43))) ((CV.toI (CV.cellD 3 e43)))) ((CV.toI (CV.cellD 1 e43))) ((CV.toI (CV.cellD 2 e43))) ((CV.toI (CV.cellD 3 e43))) (v47.2.2.1) (v47.2.2.2)
def f3_J2 {X : Type} (k : Nat) (K : Bool → Option X) (e43 : CV) (rec1 : Nat × (List CV) × Int × Int × (List CV) × Nat × (List CV) → Option X) (v8_5 : Nat × (List CV) × Int × Int × (List CV) × Nat × (List CV)) (v53 : Bool) : Option X :=
(bif v53 then
f9 k (fun u54 =>
f10 k (fun u55 =>
f3_J1 k K e43 rec1 v8_5 (u55.1, u55.2, u54.1, u54.2)) ((List.take v8_5.1 (List.drop 0 v8_5.2.2.2.2.1))) ((CV.toI (CV.cellD 1 e43))) ((CV.toI (CV.cellD 2 e43))) ((CV.toI (CV.cellD 3 e43))) ((CV.toL (CV.cellD 4 e43)))) ((CV.toI (CV.cellD 1 e43))) ((CV.toI (CV.cellD 2 e43))) ((CV.toI (CV.cellD 3 e43))) ((CV.toL (CV.cellD 4 e43))) (v8_5.2.2.2.2.2.1) (v8_5.2.2.2.2.2.2)
else
(bif ((CV.toI (CV.cellD 0 e43)) == 2) then
f11 k (fun u56 =>
f3_J1 k K e43 rec1 v8_5 (0, [], 0, u56)) (v8_5.2.2.2.2.2.1) (v8_5.2.2.2.2.2.2)
else
f3_J1 k K e43 rec1 v8_5 (v8_5.1, v8_5.2.2.2.2.1, v8_5.2.2.2.2.2.1, v8_5.2.2.2.2.2.2)))
def f3_T1 {X : Type} (k : Nat) (K : Bool → Option X)   (rec1 : Nat × (List CV) × Int × Int × (List CV) × Nat × (List CV) → Option X) (v8_5 : Nat × (List CV) × Int × Int × (List CV) × Nat × (List CV)) : Option X :=
(bif (decide (v8_5.2.2.2.1 < v8_5.2.2.1)) then
grd (decide (0 ≤ v8_5.2.2.2.1)) <|
Option.bind (v8_5.2.1)[(Int.toNat v8_5.2.2.2.1)]? fun e43 =>
grd (CV.isA 5 e43) <|
grd (CV.isI .i64 (CV.cellD 0 e43)) <|
grd (CV.isI .i64 (CV.cellD 1 e43)) <|
grd (CV.isI .i64 (CV.cellD 2 e43)) <|
grd (CV.isI .i64 (CV.cellD 3 e43)) <|
grd (CV.isL none (CV.cellD 4 e43)) <|
(bif ((CV.toI (CV.cellD 0 e43)) == 0) then
f3_J2 k K e43 rec1 v8_5 (((CV.toI (CV.cellD 0 e43)) == 0))
else
f3_J2 k K e43 rec1 v8_5 (((CV.toI (CV.cellD 0 e43)) == 1)))
else
K (true))
def f3_L1 {X : Type} (k : Nat) (K : Bool → Option X)  (rec1 : Nat × (List CV) × Int × Int × (List CV) × Nat × (List CV) → Option X) (v : Nat × (List CV) × Int × Int × (List CV) × Nat × (List CV)) : Option X := f3_T1 k K   rec1 v
set_option maxRecDepth 100000 in
theorem f3_L1_ev {X : Type} (k : Nat) (K : Out → Option X)  (r1 : St → Option X) (v : Nat × (List CV) × Int × Int × (List CV) × Nat × (List CV)) : loopB (f3_cx k) k [.r, .r, .r, .r, .r, .l, .r, .b] (Try.f3.body.getD .skip) (retK (f3_cx k) [] Try.f3.results.toList K) [] r1 (f3_S1 v) = f3_T1 k (fun u => K (f3_out u))   (fun v => r1 (f3_S1 v)) v := by kernel_rfl
theorem f3_L1_it {X : Type} (k : Nat) (K : Out → Option X)  : (fun v => iter (loopB (f3_cx k) k [.r, .r, .r, .r, .r, .l, .r, .b] (Try.f3.body.getD .skip) (retK (f3_cx k) [] Try.f3.results.toList K) []) k (f3_S1 v)) = iterV (f3_L1 k (fun u => K (f3_out u)) ) k :=
  iter_map (fun r1 v => (f3_L1_ev k K  r1 v).trans rfl) k
def f3_T {X : Type} (k : Nat) (K : Bool → Option X) (loop1 : Nat × (List CV) × Int × Int × (List CV) × Nat × (List CV) → Option X) (x0 : List CV) : Option X :=
f6 k (fun u2 =>
(bif (!u2) then
K (false)
else
f7 k (fun u4 =>
(bif (!u4) then
K (true)
else
f8 k (fun u5 =>
loop1 (0, x0, (Nat.cast ((List.length x0)) : Int), 0, [], 0, u5)) )) (x0))) 
/-- "outpost/outpostlaw11.CachePlays" -/
def f3 {X : Type} (k : Nat) (K : Bool → Option X) (x0 : List CV) : Option X := f3_T k K (iterV (f3_L1 k K) k) x0
set_option maxRecDepth 100000 in
theorem f3_ev' {X : Type} (k : Nat) (K : Out → Option X) (x0 : List CV) : evFn (f3_cx k) [] k Try.f3.ntmps Try.f3.results.toList (Try.f3.body.getD .skip) [(.sl true (some 5) x0)] [] K = f3_T k (fun u => K (f3_out u)) (fun v => iter (loopB (f3_cx k) k [.r, .r, .r, .r, .r, .l, .r, .b] (Try.f3.body.getD .skip) (retK (f3_cx k) [] Try.f3.results.toList K) []) k (f3_S1 v)) x0 := by kernel_rfl
theorem f3_ev {X : Type} (k : Nat) (K : Out → Option X) (x0 : List CV) : evFn (f3_cx k) [] k Try.f3.ntmps Try.f3.results.toList (Try.f3.body.getD .skip) [(.sl true (some 5) x0)] [] K = f3 k (fun u => K (f3_out u)) x0 := (f3_ev' k K x0).trans (by rw [f3_L1_it k K]; rfl)
def f3_c (k : Nat) : FnC := fun X xs ns K => match xs, ns with
  | [(.sl true (some 5) x0)], [] => f3 k (fun u => K (f3_out u)) x0
  | _, _ => none
theorem f3_ok (k : Nat) : AnsOk Try.prog 3 (f3_c k) := by
  intro X xs ns K x h
  unfold f3_c at h ⊢
  split at h
  · exact ans_main S (f3_Cok k) Try.func3 (ent_of Try.func3 (by kernel_rfl) rfl) rfl (fun X K => f3_ev k K _) h
  · cases h
def f4_plan : Nat → Option (List Nat × List Wk)
  | 0 => some ([0, 1], [])
  | 1 => some ([0, 1], [])
  | 2 => some ([], [])
  | 3 => some ([0, 1], [])
  | 4 => some ([], [])
  | 5 => some ([0, 1], [])
  | 6 => some ([0, 1, 5], [])
  | 7 => some ([0, 1, 5, 6], [])
  | 8 => some ([0, 1, 5, 6, 7], [])
  | 9 => some ([1, 5, 6, 7, 29, 30, 31], [])
  | 10 => some ([1, 5, 6, 7, 29, 30, 31], [])
  | 11 => some ([1, 5, 6, 7, 9, 29, 30, 31], [])
  | 12 => some ([1, 5, 6, 7, 9, 29, 30, 31], [])
  | 13 => some ([1, 5, 6, 7, 9, 10, 29, 30, 31], [])
  | 14 => some ([1, 5, 6, 7, 9, 10, 29, 30, 31], [])
  | 15 => some ([1, 5, 6, 7, 9, 10, 29, 30, 31, 52, 53], [])
  | 16 => some ([1, 5, 6, 7, 9, 10, 29, 30, 31, 52, 53], [])
  | 17 => some ([1, 5, 6, 7, 9, 10, 11, 29, 30, 31, 52, 53], [])
  | 18 => some ([1, 5, 6, 7, 9, 10, 29, 30, 31, 52, 53], [])
  | 19 => some ([1, 5, 6, 7, 9, 29, 30, 31], [])
  | 20 => some ([1, 5, 6, 7, 9, 12, 29, 30, 31], [])
  | 21 => some ([1, 5, 6, 9, 12, 29, 30, 31, 64, 65, 66], [])
  | 22 => some ([1, 5, 6, 9, 12, 29, 30, 31, 64, 65, 66], [])
  | 23 => some ([1, 5, 6, 9, 12, 14, 29, 30, 31, 64, 65, 66], [])
  | 24 => some ([1, 5, 6, 9, 12, 14, 29, 30, 31, 64, 65, 66], [])
  | 25 => some ([1, 5, 6, 9, 12, 29, 30, 31, 64, 65, 66], [])
  | 26 => some ([1, 5, 6, 9, 12, 29, 30, 31], [])
  | 27 => some ([1, 5, 6, 7, 29, 30, 31], [])
  | 28 => some ([1, 5, 6, 7, 29, 30, 31], [])
  | 29 => some ([1, 5, 6, 7, 29, 30, 31], [])
  | 30 => some ([1, 5, 6, 7], [])
  | 31 => some ([5, 6, 7], [])
  | 32 => some ([5, 6, 108, 109, 110], [])
  | 33 => some ([5, 6, 108, 109, 110], [])
  | 34 => some ([5, 6, 16, 108, 109, 110], [])
  | 35 => some ([5, 6, 16, 17, 18, 108, 109, 110], [])
  | 36 => some ([], [])
  | 37 => some ([5, 6, 16, 17, 18, 108, 109, 110], [])
  | 38 => some ([5, 6, 16, 17, 18, 108, 109, 110, 142, 143], [])
  | 39 => some ([5, 6, 16, 17, 18, 108, 109, 110, 142, 143], [])
  | 40 => some ([5, 6, 16, 17, 18, 19, 108, 109, 110, 142, 143], [])
  | 41 => some ([5, 6, 16, 17, 18, 108, 109, 110, 142, 143], [])
  | 42 => some ([5, 6, 16, 18, 108, 109, 110], [])
  | 43 => some ([5, 6, 16, 18, 20, 108, 109, 110], [])
  | 44 => some ([], [])
  | 45 => some ([5, 6, 108, 109, 110], [])
  | 46 => some ([5, 6], [])
  | _ => none
def f4_C (k : Nat) : Fns := (orC 6 (f6_c k) (orC 7 (f7_c k) (orC 8 (f8_c k) (orC 9 (f9_c k) (orC 12 (f12_c k) (orC 14 (f14_c k) (orC 15 (f15_c k) (orC 17 (f17_c k) noC))))))))
theorem f4_Cok (k : Nat) : CsOk Try.prog (f4_C k) := (orC_ok (f6_ok k) (orC_ok (f7_ok k) (orC_ok (f8_ok k) (orC_ok (f9_ok k) (orC_ok (f12_ok k) (orC_ok (f14_ok k) (orC_ok (f15_ok k) (orC_ok (f17_ok k) noC_ok))))))))
def f4_cx (k : Nat) : Cx := mkCx (tabOf rows) (f4_C k) md f4_plan (f4_Cok k)
def f4_out (u : Bool) : Out := ⟨(.v (CV.bool u)), []⟩
def f4_S1 (v : Int × Int × Nat × Nat × (List CV) × Int × Int × (List CV) × Nat × (List CV)) : St := ⟨[.undef, (.v (CV.int .i64 v.1)), .undef, .undef, .undef, (.ptr [27] 0 0 0), (.v (CV.int .i64 v.2.1)), (.osl [7] (some 5) v.2.2.1 v.2.2.2.1), .undef, .undef, .undef, .undef, .undef, .undef, .undef, .undef, .undef, .undef, .undef, .undef, .undef, .undef, .undef, .undef, .undef, .undef, .undef, .undef, .undef, (.sl true (some 5) v.2.2.2.2.1), (.v (CV.int .i64 v.2.2.2.2.2.1)), (.v (CV.int .i64 v.2.2.2.2.2.2.1)), .undef, .undef, .undef, .undef, .undef, .undef, .undef, .undef, .undef, .undef, .undef, .undef, .undef, .undef, .undef, .undef, .undef, .undef, .undef, .undef, .undef, .undef, .undef, .undef, .undef, .undef, .undef, .undef, .undef, .undef, .undef, .undef, .undef, .undef, .undef, .undef, .undef, .undef, .undef, .undef, .undef, .undef, .undef, .undef, .undef, .undef, .undef, .undef, .undef, .undef, .undef, .undef, .undef, .undef, .undef, .undef, .undef, .undef, .undef, .undef, .undef, .undef, .undef, .undef, .undef, .undef, .undef, .undef, .undef, .undef, .undef, .undef, .undef, .undef, .undef, .undef, .undef, .undef, .undef, .undef, .undef, .undef, .undef, .undef, .undef, .undef, .undef, .undef, .undef, .undef, .undef, .undef, .undef, .undef, .undef, .undef, .undef, .undef, .undef, .undef, .undef, .undef, .undef, .undef, .undef, .undef, .undef, .undef, .undef, .undef, .undef, .undef, .undef, .undef, .undef, .undef, .undef, .undef, .undef, .undef, .undef, .undef, .undef, .undef, .undef, .undef, .undef, .undef, .undef, .undef, .undef, .undef, .undef, .undef, .undef, .undef, .undef, .undef, .undef, .undef, .undef, .undef, .undef, .undef], [([7], (.row false (some 5) v.2.2.2.2.2.2.2.1)), ([27], (.obj [(.osl [0, 27] (some 4) 0 v.2.2.2.2.2.2.2.2.1)])), ([0, 27], (.row false (some 4) v.2.2.2.2.2.2.2.2.2))]⟩
def f4_S2 (v : Int × Int × Nat × Nat × Nat × (List CV) × Int × Int × Int × Int × (List CV) × Int × Int × Int × Int × (List CV) × (List CV) × Nat × (List CV)) : St := ⟨[.undef, (.v (CV.int .i64 v.1)), .undef, .undef, .undef, (.ptr [27] 0 0 0), (.v (CV.int .i64 v.2.1)), (.osl [7] (some 5) v.2.2.1 v.2.2.2.1), .undef, (.ptr [9] 0 0 0), (.osl [10] none 0 v.2.2.2.2.1), .undef, .undef, .undef, .undef, .undef, .undef, .undef, .undef, .undef, .undef, .undef, .undef, .undef, .undef, .undef, .undef, .undef, .undef, (.sl true (some 5) v.2.2.2.2.2.1), (.v (CV.int .i64 v.2.2.2.2.2.2.1)), (.v (CV.int .i64 v.2.2.2.2.2.2.2.1)), .undef, .undef, .undef, .undef, .undef, .undef, .undef, .undef, .undef, .undef, .undef, .undef, .undef, .undef, .undef, .undef, .undef, .undef, .undef, .undef, (.v (CV.int .i64 v.2.2.2.2.2.2.2.2.1)), (.v (CV.int .i64 v.2.2.2.2.2.2.2.2.2.1)), .undef, .undef, .undef, .undef, .undef, .undef, .undef, .undef, .undef, .undef, .undef, .undef, .undef, .undef, .undef, .undef, .undef, .undef, .undef, .undef, .undef, .undef, .undef, .undef, .undef, .undef, .undef, .undef, .undef, .undef, .undef, .undef, .undef, .undef, .undef, .undef, .undef, .undef, .undef, .undef, .undef, .undef, .undef, .undef, .undef, .undef, .undef, .undef, .undef, .undef, .undef, .undef, .undef, .undef, .undef, .undef, .undef, .undef, .undef, .undef, .undef, .undef, .undef, .undef, .undef, .undef, .undef, .undef, .undef, .undef, .undef, .undef, .undef, .undef, .undef, .undef, .undef, .undef, .undef, .undef, .undef, .undef, .undef, .undef, .undef, .undef, .undef, .undef, .undef, .undef, .undef, .undef, .undef, .undef, .undef, .undef, .undef, .undef, .undef, .undef, .undef, .undef, .undef, .undef, .undef, .undef, .undef, .undef, .undef, .undef, .undef, .undef, .undef, .undef, .undef, .undef, .undef, .undef, .undef, .undef, .undef, .undef], [([7], (.row false (some 5) v.2.2.2.2.2.2.2.2.2.2.1)), ([9], (.obj [(.v (CV.int .i64 v.2.2.2.2.2.2.2.2.2.2.2.1)), (.v (CV.int .i64 v.2.2.2.2.2.2.2.2.2.2.2.2.1)), (.v (CV.int .i64 v.2.2.2.2.2.2.2.2.2.2.2.2.2.1)), (.v (CV.int .i64 v.2.2.2.2.2.2.2.2.2.2.2.2.2.2.1)), (.sl true none v.2.2.2.2.2.2.2.2.2.2.2.2.2.2.2.1)])), ([10], (.row false none v.2.2.2.2.2.2.2.2.2.2.2.2.2.2.2.2.1)), ([27], (.obj [(.osl [0, 27] (some 4) 0 v.2.2.2.2.2.2.2.2.2.2.2.2.2.2.2.2.2.1)])), ([0, 27], (.row false (some 4) v.2.2.2.2.2.2.2.2.2.2.2.2.2.2.2.2.2.2))]⟩
def f4_S3 (v : Int × Int × Nat × (List CV) × Int × Int × Nat × Nat × Int × Int × (List CV) × Int × Int × Int × Int × (List CV) × (List CV) × Nat × (List CV)) : St := ⟨[.undef, (.v (CV.int .i64 v.1)), .undef, .undef, .undef, (.ptr [27] 0 0 0), (.v (CV.int .i64 v.2.1)), .undef, .undef, (.ptr [9] 0 0 0), .undef, .undef, (.osl [12] (some 5) 0 v.2.2.1), .undef, .undef, .undef, .undef, .undef, .undef, .undef, .undef, .undef, .undef, .undef, .undef, .undef, .undef, .undef, .undef, (.sl true (some 5) v.2.2.2.1), (.v (CV.int .i64 v.2.2.2.2.1)), (.v (CV.int .i64 v.2.2.2.2.2.1)), .undef, .undef, .undef, .undef, .undef, .undef, .undef, .undef, .undef, .undef, .undef, .undef, .undef, .undef, .undef, .undef, .undef, .undef, .undef, .undef, .undef, .undef, .undef, .undef, .undef, .undef, .undef, .undef, .undef, .undef, .undef, .undef, (.osl [7] (some 5) v.2.2.2.2.2.2.1 v.2.2.2.2.2.2.2.1), (.v (CV.int .i64 v.2.2.2.2.2.2.2.2.1)), (.v (CV.int .i64 v.2.2.2.2.2.2.2.2.2.1)), .undef, .undef, .undef, .undef, .undef, .undef, .undef, .undef, .undef, .undef, .undef, .undef, .undef, .undef, .undef, .undef, .undef, .undef, .undef, .undef, .undef, .undef, .undef, .undef, .undef, .undef, .undef, .undef, .undef, .undef, .undef, .undef, .undef, .undef, .undef, .undef, .undef, .undef, .undef, .undef, .undef, .undef, .undef, .undef, .undef, .undef, .undef, .undef, .undef, .undef, .undef, .undef, .undef, .undef, .undef, .undef, .undef, .undef, .undef, .undef, .undef, .undef, .undef, .undef, .undef, .undef, .undef, .undef, .undef, .undef, .undef, .undef, .undef, .undef, .undef, .undef, .undef, .undef, .undef, .undef, .undef, .undef, .undef, .undef, .undef, .undef, .undef, .undef, .undef, .undef, .undef, .undef, .undef, .undef, .undef, .undef, .undef, .undef, .undef, .undef, .undef, .undef, .undef, .undef, .undef, .undef, .undef, .undef, .undef], [([7], (.row false (some 5) v.2.2.2.2.2.2.2.2.2.2.1)), ([9], (.obj [(.v (CV.int .i64 v.2.2.2.2.2.2.2.2.2.2.2.1)), (.v (CV.int .i64 v.2.2.2.2.2.2.2.2.2.2.2.2.1)), (.v (CV.int .i64 v.2.2.2.2.2.2.2.2.2.2.2.2.2.1)), (.v (CV.int .i64 v.2.2.2.2.2.2.2.2.2.2.2.2.2.2.1)), (.sl true none v.2.2.2.2.2.2.2.2.2.2.2.2.2.2.2.1)])), ([12], (.row false (some 5) v.2.2.2.2.2.2.2.2.2.2.2.2.2.2.2.2.1)), ([27], (.obj [(.osl [0, 27] (some 4) 0 v.2.2.2.2.2.2.2.2.2.2.2.2.2.2.2.2.2.1)])), ([0, 27], (.row false (some 4) v.2.2.2.2.2.2.2.2.2.2.2.2.2.2.2.2.2.2))]⟩
def f4_S4 (v : Int × Nat × Nat × Int × Int × (List CV) × Nat × (List CV)) : St := ⟨[.undef, .undef, .undef, .undef, .undef, (.ptr [27] 0 0 0), (.v (CV.int .i64 v.1)), .undef, .undef, .undef, .undef, .undef, .undef, .undef, .undef, .undef, .undef, .undef, .undef, .undef, .undef, .undef, .undef, .undef, .undef, .undef, .undef, .undef, .undef, .undef, .undef, .undef, .undef, .undef, .undef, .undef, .undef, .undef, .undef, .undef, .undef, .undef, .undef, .undef, .undef, .undef, .undef, .undef, .undef, .undef, .undef, .undef, .undef, .undef, .undef, .undef, .undef, .undef, .undef, .undef, .undef, .undef, .undef, .undef, .undef, .undef, .undef, .undef, .undef, .undef, .undef, .undef, .undef, .undef, .undef, .undef, .undef, .undef, .undef, .undef, .undef, .undef, .undef, .undef, .undef, .undef, .undef, .undef, .undef, .undef, .undef, .undef, .undef, .undef, .undef, .undef, .undef, .undef, .undef, .undef, .undef, .undef, .undef, .undef, .undef, .undef, .undef, .undef, (.osl [7] (some 5) v.2.1 v.2.2.1), (.v (CV.int .i64 v.2.2.2.1)), (.v (CV.int .i64 v.2.2.2.2.1)), .undef, .undef, .undef, .undef, .undef, .undef, .undef, .undef, .undef, .undef, .undef, .undef, .undef, .undef, .undef, .undef, .undef, .undef, .undef, .undef, .undef, .undef, .undef, .undef, .undef, .undef, .undef, .undef, .undef, .undef, .undef, .undef, .undef, .undef, .undef, .undef, .undef, .undef, .undef, .undef, .undef, .undef, .undef, .undef, .undef, .undef, .undef, .undef, .undef, .undef, .undef, .undef, .undef, .undef, .undef, .undef, .undef, .undef, .undef, .undef, .undef, .undef, .undef, .undef, .undef], [([7], (.row false (some 5) v.2.2.2.2.2.1)), ([27], (.obj [(.osl [0, 27] (some 4) 0 v.2.2.2.2.2.2.1)])), ([0, 27], (.row false (some 4) v.2.2.2.2.2.2.2))]⟩
def f4_S5 (v : Int × Nat × Bool × Nat × Nat × Int × Int × Int × Int × (List CV) × Int × Int × Int × Int × (List CV) × (List CV) × Nat × (List CV)) : St := ⟨[.undef, .undef, .undef, .undef, .undef, (.ptr [27] 0 0 0), (.v (CV.int .i64 v.1)), .undef, .undef, .undef, .undef, .undef, .undef, .undef, .undef, .undef, (.ptr [16] 0 0 0), (.osl [17] none 0 v.2.1), (.v (CV.bool v.2.2.1)), .undef, .undef, .undef, .undef, .undef, .undef, .undef, .undef, .undef, .undef, .undef, .undef, .undef, .undef, .undef, .undef, .undef, .undef, .undef, .undef, .undef, .undef, .undef, .undef, .undef, .undef, .undef, .undef, .undef, .undef, .undef, .undef, .undef, .undef, .undef, .undef, .undef, .undef, .undef, .undef, .undef, .undef, .undef, .undef, .undef, .undef, .undef, .undef, .undef, .undef, .undef, .undef, .undef, .undef, .undef, .undef, .undef, .undef, .undef, .undef, .undef, .undef, .undef, .undef, .undef, .undef, .undef, .undef, .undef, .undef, .undef, .undef, .undef, .undef, .undef, .undef, .undef, .undef, .undef, .undef, .undef, .undef, .undef, .undef, .undef, .undef, .undef, .undef, .undef, (.osl [7] (some 5) v.2.2.2.1 v.2.2.2.2.1), (.v (CV.int .i64 v.2.2.2.2.2.1)), (.v (CV.int .i64 v.2.2.2.2.2.2.1)), .undef, .undef, .undef, .undef, .undef, .undef, .undef, .undef, .undef, .undef, .undef, .undef, .undef, .undef, .undef, .undef, .undef, .undef, .undef, .undef, .undef, .undef, .undef, .undef, .undef, .undef, .undef, .undef, .undef, .undef, .undef, (.v (CV.int .i64 v.2.2.2.2.2.2.2.1)), (.v (CV.int .i64 v.2.2.2.2.2.2.2.2.1)), .undef, .undef, .undef, .undef, .undef, .undef, .undef, .undef, .undef, .undef, .undef, .undef, .undef, .undef, .undef, .undef, .undef, .undef, .undef, .undef, .undef, .undef, .undef, .undef, .undef, .undef, .undef, .undef, .undef, .undef, .undef, .undef], [([7], (.row false (some 5) v.2.2.2.2.2.2.2.2.2.1)), ([16], (.obj [(.v (CV.int .i64 v.2.2.2.2.2.2.2.2.2.2.1)), (.v (CV.int .i64 v.2.2.2.2.2.2.2.2.2.2.2.1)), (.v (CV.int .i64 v.2.2.2.2.2.2.2.2.2.2.2.2.1)), (.v (CV.int .i64 v.2.2.2.2.2.2.2.2.2.2.2.2.2.1)), (.sl true none v.2.2.2.2.2.2.2.2.2.2.2.2.2.2.1)])), ([17], (.row false none v.2.2.2.2.2.2.2.2.2.2.2.2.2.2.2.1)), ([27], (.obj [(.osl [0, 27] (some 4) 0 v.2.2.2.2.2.2.2.2.2.2.2.2.2.2.2.2.1)])), ([0, 27], (.row false (some 4) v.2.2.2.2.2.2.2.2.2.2.2.2.2.2.2.2.2))]⟩
def f4_J1 {X : Type} (k : Nat) (K : Bool → Option X) (rec3 : Int × Int × Nat × (List CV) × Int × Int × Nat × Nat × Int × Int × (List CV) × Int × Int × Int × Int × (List CV) × (List CV) × Nat × (List CV) → Option X) (v23_27 : Int × Int × Nat × (List CV) × Int × Int × Nat × Nat × Int × Int × (List CV) × Int × Int × Int × Int × (List CV) × (List CV) × Nat × (List CV)) (v32 : Nat × (List CV)) : Option X :=
rec3 (v23_27.1, v23_27.2.1, v32.1, v23_27.2.2.2.1, v23_27.2.2.2.2.1, v23_27.2.2.2.2.2.1, v23_27.2.2.2.2.2.2.1, v23_27.2.2.2.2.2.2.2.1, v23_27.2.2.2.2.2.2.2.2.1, (IntKind.wrap .i64 (v23_27.2.2.2.2.2.2.2.2.2.1 + 1)), v23_27.2.2.2.2.2.2.2.2.2.2.1, v23_27.2.2.2.2.2.2.2.2.2.2.2.1, v23_27.2.2.2.2.2.2.2.2.2.2.2.2.1, v23_27.2.2.2.2.2.2.2.2.2.2.2.2.2.1, v23_27.2.2.2.2.2.2.2.2.2.2.2.2.2.2.1, v23_27.2.2.2.2.2.2.2.2.2.2.2.2.2.2.2.1, v32.2, v23_27.2.2.2.2.2.2.2.2.2.2.2.2.2.2.2.2.2.1, v23_27.2.2.2.2.2.2.2.2.2.2.2.2.2.2.2.2.2.2)
def f4_J2 {X : Type} (k : Nat) (K : Bool → Option X) (e46 : CV) (loop5 : Int × Nat × Bool × Nat × Nat × Int × Int × Int × Int × (List CV) × Int × Int × Int × Int × (List CV) × (List CV) × Nat × (List CV) → Option X) (u47 : Nat × Bool × Nat × (List CV) × (List CV)) (v11_33 : Int × Nat × Nat × Int × Int × (List CV) × Nat × (List CV)) (v49 : Unit) : Option X :=
loop5 (v11_33.1, u47.1, u47.2.1, v11_33.2.1, v11_33.2.2.1, v11_33.2.2.2.1, v11_33.2.2.2.2.1, (Nat.cast (u47.1) : Int), 0, v11_33.2.2.2.2.2.1, (CV.toI (CV.cellD 0 e46)), (CV.toI (CV.cellD 1 e46)), (CV.toI (CV.cellD 2 e46)), (CV.toI (CV.cellD 3 e46)), (CV.toL (CV.cellD 4 e46)), u47.2.2.2.2, u47.2.2.1, u47.2.2.2.1)
def f4_T5 {X : Type} (k : Nat) (K : Bool → Option X) (rec4 : Int × Nat × Nat × Int × Int × (List CV) × Nat × (List CV) → Option X)  (rec5 : Int × Nat × Bool × Nat × Nat × Int × Int × Int × Int × (List CV) × Int × Int × Int × Int × (List CV) × (List CV) × Nat × (List CV) → Option X) (v22_49 : Int × Nat × Bool × Nat × Nat × Int × Int × Int × Int × (List CV) × Int × Int × Int × Int × (List CV) × (List CV) × Nat × (List CV)) : Option X :=
(bif (decide (v22_49.2.2.2.2.2.2.2.2.1 < v22_49.2.2.2.2.2.2.2.1)) then
grd (decide (0 ≤ v22_49.2.2.2.2.2.2.2.2.1)) <|
grd (decide (v22_49.2.2.2.2.2.2.2.2.1 < (Nat.cast (v22_49.2.1) : Int))) <|
Option.bind (v22_49.2.2.2.2.2.2.2.2.2.2.2.2.2.2.2.1)[(0 + (Int.toNat v22_49.2.2.2.2.2.2.2.2.1))]? fun e54 =>
grd (CV.isI .u8 e54) <|
grd (decide (0 ≤ v22_49.2.2.2.2.2.2.2.2.1)) <|
grd (decide (v22_49.2.2.2.2.2.2.2.2.1 < (Nat.cast (v22_49.2.1) : Int))) <|
grd (decide ((0 + (Int.toNat v22_49.2.2.2.2.2.2.2.2.1)) < (List.length v22_49.2.2.2.2.2.2.2.2.2.2.2.2.2.2.2.1))) <|
rec5 (v22_49.1, v22_49.2.1, v22_49.2.2.1, v22_49.2.2.2.1, v22_49.2.2.2.2.1, v22_49.2.2.2.2.2.1, v22_49.2.2.2.2.2.2.1, v22_49.2.2.2.2.2.2.2.1, (IntKind.wrap .i64 (v22_49.2.2.2.2.2.2.2.2.1 + 1)), v22_49.2.2.2.2.2.2.2.2.2.1, v22_49.2.2.2.2.2.2.2.2.2.2.1, v22_49.2.2.2.2.2.2.2.2.2.2.2.1, v22_49.2.2.2.2.2.2.2.2.2.2.2.2.1, v22_49.2.2.2.2.2.2.2.2.2.2.2.2.2.1, v22_49.2.2.2.2.2.2.2.2.2.2.2.2.2.2.1, (List.set v22_49.2.2.2.2.2.2.2.2.2.2.2.2.2.2.2.1 (0 + (Int.toNat v22_49.2.2.2.2.2.2.2.2.1)) (CV.int .u8 (IntKind.wrap .u8 ((CV.toI e54) + 1)))), v22_49.2.2.2.2.2.2.2.2.2.2.2.2.2.2.2.2.1, v22_49.2.2.2.2.2.2.2.2.2.2.2.2.2.2.2.2.2)
else
f12 k (fun u55 =>
(bif v22_49.2.2.1 then
f14 k (fun u56 =>
(bif (!u56) then
K (false)
else
rec4 (v22_49.1, v22_49.2.2.2.1, v22_49.2.2.2.2.1, v22_49.2.2.2.2.2.1, (IntKind.wrap .i64 (v22_49.2.2.2.2.2.2.1 + 1)), v22_49.2.2.2.2.2.2.2.2.2.1, u55.2.2.1, u55.2.2.2.1))) ((List.take u55.1 (List.drop 0 u55.2.2.2.2))) (v22_49.2.2.2.2.2.2.2.2.2.2.2.2.2.2.1)
else
rec4 (v22_49.1, v22_49.2.2.2.1, v22_49.2.2.2.2.1, v22_49.2.2.2.2.2.1, (IntKind.wrap .i64 (v22_49.2.2.2.2.2.2.1 + 1)), v22_49.2.2.2.2.2.2.2.2.2.1, u55.2.2.1, u55.2.2.2.1))) (v22_49.2.2.2.2.2.2.2.2.2.2.2.1) (v22_49.2.2.2.2.2.2.2.2.2.2.2.2.1) (v22_49.1) (v22_49.2.2.2.2.2.2.2.2.2.2.2.2.2.2.2.2.1) (v22_49.2.2.2.2.2.2.2.2.2.2.2.2.2.2.2.2.2))
def f4_L5 {X : Type} (k : Nat) (K : Bool → Option X) (rec4 : Int × Nat × Nat × Int × Int × (List CV) × Nat × (List CV) → Option X) (rec5 : Int × Nat × Bool × Nat × Nat × Int × Int × Int × Int × (List CV) × Int × Int × Int × Int × (List CV) × (List CV) × Nat × (List CV) → Option X) (v : Int × Nat × Bool × Nat × Nat × Int × Int × Int × Int × (List CV) × Int × Int × Int × Int × (List CV) × (List CV) × Nat × (List CV)) : Option X := f4_T5 k K rec4  rec5 v
set_option maxRecDepth 100000 in
theorem f4_L5_ev {X : Type} (k : Nat) (K : Out → Option X) (r4 : St → Option X) (r5 : St → Option X) (v : Int × Nat × Bool × Nat × Nat × Int × Int × Int × Int × (List CV) × Int × Int × Int × Int × (List CV) × (List CV) × Nat × (List CV)) : loopB (f4_cx k) k [.r, .r, .r, .r, .r, .r, .r, .r, .l, .r, .b, .o, .r, .r, .l, .b, .r, .r, .r, .l, .r, .b] (Try.f4.body.getD .skip) (retK (f4_cx k) [] Try.f4.results.toList K) [r4] r5 (f4_S5 v) = f4_T5 k (fun u => K (f4_out u)) (fun v => r4 (f4_S4 v))  (fun v => r5 (f4_S5 v)) v := by kernel_rfl
theorem f4_L5_it {X : Type} (k : Nat) (K : Out → Option X) (r4 : St → Option X) : (fun v => iter (loopB (f4_cx k) k [.r, .r, .r, .r, .r, .r, .r, .r, .l, .r, .b, .o, .r, .r, .l, .b, .r, .r, .r, .l, .r, .b] (Try.f4.body.getD .skip) (retK (f4_cx k) [] Try.f4.results.toList K) [r4]) k (f4_S5 v)) = iterV (f4_L5 k (fun u => K (f4_out u)) (fun v => r4 (f4_S4 v))) k :=
  iter_map (fun r5 v => (f4_L5_ev k K r4 r5 v).trans rfl) k
def f4_T4 {X : Type} (k : Nat) (K : Bool → Option X)  (loop5 : Int × Nat × Bool × Nat × Nat × Int × Int × Int × Int × (List CV) × Int × Int × Int × Int × (List CV) × (List CV) × Nat × (List CV) → Option X) (rec4 : Int × Nat × Nat × Int × Int × (List CV) × Nat × (List CV) → Option X) (v11_33 : Int × Nat × Nat × Int × Int × (List CV) × Nat × (List CV)) : Option X :=
(bif (decide (v11_33.2.2.2.2.1 < v11_33.2.2.2.1)) then
grd (decide (0 ≤ v11_33.2.2.2.2.1)) <|
grd (decide (v11_33.2.2.2.2.1 < (Nat.cast (v11_33.2.2.1) : Int))) <|
Option.bind (v11_33.2.2.2.2.2.1)[(v11_33.2.1 + (Int.toNat v11_33.2.2.2.2.1))]? fun e46 =>
grd (CV.isA 5 e46) <|
grd (CV.isI .i64 (CV.cellD 0 e46)) <|
grd (CV.isI .i64 (CV.cellD 1 e46)) <|
grd (CV.isI .i64 (CV.cellD 2 e46)) <|
grd (CV.isI .i64 (CV.cellD 3 e46)) <|
grd (CV.isL none (CV.cellD 4 e46)) <|
f12 k (fun u47 =>
(bif (!(u47.2.1 == (decide ((IntKind.wrap .i64 (v11_33.1 - (CV.toI (CV.cellD 3 e46)))) < 247)))) then
K (false)
else
(bif u47.2.1 then
f14 k (fun u57 =>
(bif (!u57) then
K (false)
else
f4_J2 k K e46 loop5 u47 v11_33 (()))) ((List.take u47.1 (List.drop 0 u47.2.2.2.2))) ((CV.toL (CV.cellD 4 e46)))
else
f4_J2 k K e46 loop5 u47 v11_33 (())))) ((CV.toI (CV.cellD 1 e46))) ((CV.toI (CV.cellD 2 e46))) (v11_33.1) (v11_33.2.2.2.2.2.2.1) (v11_33.2.2.2.2.2.2.2)
else
f15 k (fun u58 =>
K ((decide (u58.1 ≤ 8)))) (v11_33.1) (v11_33.2.2.2.2.2.2.1) (v11_33.2.2.2.2.2.2.2))
def f4_L4 {X : Type} (k : Nat) (K : Bool → Option X)  (rec4 : Int × Nat × Nat × Int × Int × (List CV) × Nat × (List CV) → Option X) (v : Int × Nat × Nat × Int × Int × (List CV) × Nat × (List CV)) : Option X := f4_T4 k K  (iterV (f4_L5 k K rec4) k) rec4 v
set_option maxRecDepth 100000 in
theorem f4_L4_ev {X : Type} (k : Nat) (K : Out → Option X)  (r4 : St → Option X) (v : Int × Nat × Nat × Int × Int × (List CV) × Nat × (List CV)) : loopB (f4_cx k) k [.r, .r, .r, .r, .r, .r, .r, .r, .l, .r, .b] (Try.f4.body.getD .skip) (retK (f4_cx k) [] Try.f4.results.toList K) [] r4 (f4_S4 v) = f4_T4 k (fun u => K (f4_out u))  (fun v => iter (loopB (f4_cx k) k [.r, .r, .r, .r, .r, .r, .r, .r, .l, .r, .b, .o, .r, .r, .l, .b, .r, .r, .r, .l, .r, .b] (Try.f4.body.getD .skip) (retK (f4_cx k) [] Try.f4.results.toList K) [r4]) k (f4_S5 v)) (fun v => r4 (f4_S4 v)) v := by kernel_rfl
theorem f4_L4_it {X : Type} (k : Nat) (K : Out → Option X)  : (fun v => iter (loopB (f4_cx k) k [.r, .r, .r, .r, .r, .r, .r, .r, .l, .r, .b] (Try.f4.body.getD .skip) (retK (f4_cx k) [] Try.f4.results.toList K) []) k (f4_S4 v)) = iterV (f4_L4 k (fun u => K (f4_out u)) ) k :=
  iter_map (fun r4 v => (f4_L4_ev k K  r4 v).trans (by rw [f4_L5_it k K r4]; rfl)) k
def f4_T3 {X : Type} (k : Nat) (K : Bool → Option X) (rec1 : Int × Int × Nat × Nat × (List CV) × Int × Int × (List CV) × Nat × (List CV) → Option X)  (rec3 : Int × Int × Nat × (List CV) × Int × Int × Nat × Nat × Int × Int × (List CV) × Int × Int × Int × Int × (List CV) × (List CV) × Nat × (List CV) → Option X) (v23_27 : Int × Int × Nat × (List CV) × Int × Int × Nat × Nat × Int × Int × (List CV) × Int × Int × Int × Int × (List CV) × (List CV) × Nat × (List CV)) : Option X :=
(bif (decide (v23_27.2.2.2.2.2.2.2.2.2.1 < v23_27.2.2.2.2.2.2.2.2.1)) then
grd (decide (0 ≤ v23_27.2.2.2.2.2.2.2.2.2.1)) <|
grd (decide (v23_27.2.2.2.2.2.2.2.2.2.1 < (Nat.cast (v23_27.2.2.2.2.2.2.2.1) : Int))) <|
Option.bind (v23_27.2.2.2.2.2.2.2.2.2.2.1)[(v23_27.2.2.2.2.2.2.1 + (Int.toNat v23_27.2.2.2.2.2.2.2.2.2.1))]? fun e33 =>
grd (CV.isA 5 e33) <|
grd (CV.isI .i64 (CV.cellD 0 e33)) <|
grd (CV.isI .i64 (CV.cellD 1 e33)) <|
grd (CV.isI .i64 (CV.cellD 2 e33)) <|
grd (CV.isI .i64 (CV.cellD 3 e33)) <|
grd (CV.isL none (CV.cellD 4 e33)) <|
(bif ((CV.toI (CV.cellD 1 e33)) != v23_27.2.2.2.2.2.2.2.2.2.2.2.2.1) then
grd (decide ((v23_27.2.2.1 + (List.length (List.take 1 (List.drop 0 [(CV.agg [(CV.int .i64 (CV.toI (CV.cellD 0 e33))), (CV.int .i64 (CV.toI (CV.cellD 1 e33))), (CV.int .i64 (CV.toI (CV.cellD 2 e33))), (CV.int .i64 (CV.toI (CV.cellD 3 e33))), (CV.slc none (CV.toL (CV.cellD 4 e33)))])])))) * 56 ≤ 140737488355328)) <|
f4_J1 k K rec3 v23_27 ((v23_27.2.2.1 + (List.length (List.take 1 (List.drop 0 [(CV.agg [(CV.int .i64 (CV.toI (CV.cellD 0 e33))), (CV.int .i64 (CV.toI (CV.cellD 1 e33))), (CV.int .i64 (CV.toI (CV.cellD 2 e33))), (CV.int .i64 (CV.toI (CV.cellD 3 e33))), (CV.slc none (CV.toL (CV.cellD 4 e33)))])])))), ((List.take v23_27.2.2.1 v23_27.2.2.2.2.2.2.2.2.2.2.2.2.2.2.2.2.1) ++ (List.take 1 (List.drop 0 [(CV.agg [(CV.int .i64 (CV.toI (CV.cellD 0 e33))), (CV.int .i64 (CV.toI (CV.cellD 1 e33))), (CV.int .i64 (CV.toI (CV.cellD 2 e33))), (CV.int .i64 (CV.toI (CV.cellD 3 e33))), (CV.slc none (CV.toL (CV.cellD 4 e33)))])]))))
else
(bif ((CV.toI (CV.cellD 2 e33)) != v23_27.2.2.2.2.2.2.2.2.2.2.2.2.2.1) then
grd (decide ((v23_27.2.2.1 + (List.length (List.take 1 (List.drop 0 [(CV.agg [(CV.int .i64 (CV.toI (CV.cellD 0 e33))), (CV.int .i64 (CV.toI (CV.cellD 1 e33))), (CV.int .i64 (CV.toI (CV.cellD 2 e33))), (CV.int .i64 (CV.toI (CV.cellD 3 e33))), (CV.slc none (CV.toL (CV.cellD 4 e33)))])])))) * 56 ≤ 140737488355328)) <|
f4_J1 k K rec3 v23_27 ((v23_27.2.2.1 + (List.length (List.take 1 (List.drop 0 [(CV.agg [(CV.int .i64 (CV.toI (CV.cellD 0 e33))), (CV.int .i64 (CV.toI (CV.cellD 1 e33))), (CV.int .i64 (CV.toI (CV.cellD 2 e33))), (CV.int .i64 (CV.toI (CV.cellD 3 e33))), (CV.slc none (CV.toL (CV.cellD 4 e33)))])])))), ((List.take v23_27.2.2.1 v23_27.2.2.2.2.2.2.2.2.2.2.2.2.2.2.2.2.1) ++ (List.take 1 (List.drop 0 [(CV.agg [(CV.int .i64 (CV.toI (CV.cellD 0 e33))), (CV.int .i64 (CV.toI (CV.cellD 1 e33))), (CV.int .i64 (CV.toI (CV.cellD 2 e33))), (CV.int .i64 (CV.toI (CV.cellD 3 e33))), (CV.slc none (CV.toL (CV.cellD 4 e33)))])]))))
else
f4_J1 k K rec3 v23_27 (v23_27.2.2.1, v23_27.2.2.2.2.2.2.2.2.2.2.2.2.2.2.2.2.1)))
else
grd (decide ((v23_27.2.2.1 + (List.length (List.take 1 (List.drop 0 [(CV.agg [(CV.int .i64 0), (CV.int .i64 v23_27.2.2.2.2.2.2.2.2.2.2.2.2.1), (CV.int .i64 v23_27.2.2.2.2.2.2.2.2.2.2.2.2.2.1), (CV.int .i64 v23_27.2.1), (CV.slc none v23_27.2.2.2.2.2.2.2.2.2.2.2.2.2.2.2.1)])])))) * 56 ≤ 140737488355328)) <|
(bif (decide ((Nat.cast ((v23_27.2.2.1 + (List.length (List.take 1 (List.drop 0 [(CV.agg [(CV.int .i64 0), (CV.int .i64 v23_27.2.2.2.2.2.2.2.2.2.2.2.2.1), (CV.int .i64 v23_27.2.2.2.2.2.2.2.2.2.2.2.2.2.1), (CV.int .i64 v23_27.2.1), (CV.slc none v23_27.2.2.2.2.2.2.2.2.2.2.2.2.2.2.2.1)])]))))) : Int) > 8)) then
grd (decide (1 ≤ (Nat.cast ((v23_27.2.2.1 + (List.length (List.take 1 (List.drop 0 [(CV.agg [(CV.int .i64 0), (CV.int .i64 v23_27.2.2.2.2.2.2.2.2.2.2.2.2.1), (CV.int .i64 v23_27.2.2.2.2.2.2.2.2.2.2.2.2.2.1), (CV.int .i64 v23_27.2.1), (CV.slc none v23_27.2.2.2.2.2.2.2.2.2.2.2.2.2.2.2.1)])]))))) : Int))) <|
grd (decide ((Nat.cast ((v23_27.2.2.1 + (List.length (List.take 1 (List.drop 0 [(CV.agg [(CV.int .i64 0), (CV.int .i64 v23_27.2.2.2.2.2.2.2.2.2.2.2.2.1), (CV.int .i64 v23_27.2.2.2.2.2.2.2.2.2.2.2.2.2.1), (CV.int .i64 v23_27.2.1), (CV.slc none v23_27.2.2.2.2.2.2.2.2.2.2.2.2.2.2.2.1)])]))))) : Int) ≤ (Nat.cast ((v23_27.2.2.1 + (List.length (List.take 1 (List.drop 0 [(CV.agg [(CV.int .i64 0), (CV.int .i64 v23_27.2.2.2.2.2.2.2.2.2.2.2.2.1), (CV.int .i64 v23_27.2.2.2.2.2.2.2.2.2.2.2.2.2.1), (CV.int .i64 v23_27.2.1), (CV.slc none v23_27.2.2.2.2.2.2.2.2.2.2.2.2.2.2.2.1)])]))))) : Int))) <|
rec1 (v23_27.1, v23_27.2.1, 1, ((v23_27.2.2.1 + (List.length (List.take 1 (List.drop 0 [(CV.agg [(CV.int .i64 0), (CV.int .i64 v23_27.2.2.2.2.2.2.2.2.2.2.2.2.1), (CV.int .i64 v23_27.2.2.2.2.2.2.2.2.2.2.2.2.2.1), (CV.int .i64 v23_27.2.1), (CV.slc none v23_27.2.2.2.2.2.2.2.2.2.2.2.2.2.2.2.1)])])))) - 1), v23_27.2.2.2.1, v23_27.2.2.2.2.1, (IntKind.wrap .i64 (v23_27.2.2.2.2.2.1 + 1)), ((List.take v23_27.2.2.1 v23_27.2.2.2.2.2.2.2.2.2.2.2.2.2.2.2.2.1) ++ (List.take 1 (List.drop 0 [(CV.agg [(CV.int .i64 0), (CV.int .i64 v23_27.2.2.2.2.2.2.2.2.2.2.2.2.1), (CV.int .i64 v23_27.2.2.2.2.2.2.2.2.2.2.2.2.2.1), (CV.int .i64 v23_27.2.1), (CV.slc none v23_27.2.2.2.2.2.2.2.2.2.2.2.2.2.2.2.1)])]))), v23_27.2.2.2.2.2.2.2.2.2.2.2.2.2.2.2.2.2.1, v23_27.2.2.2.2.2.2.2.2.2.2.2.2.2.2.2.2.2.2)
else
rec1 (v23_27.1, v23_27.2.1, 0, (v23_27.2.2.1 + (List.length (List.take 1 (List.drop 0 [(CV.agg [(CV.int .i64 0), (CV.int .i64 v23_27.2.2.2.2.2.2.2.2.2.2.2.2.1), (CV.int .i64 v23_27.2.2.2.2.2.2.2.2.2.2.2.2.2.1), (CV.int .i64 v23_27.2.1), (CV.slc none v23_27.2.2.2.2.2.2.2.2.2.2.2.2.2.2.2.1)])])))), v23_27.2.2.2.1, v23_27.2.2.2.2.1, (IntKind.wrap .i64 (v23_27.2.2.2.2.2.1 + 1)), ((List.take v23_27.2.2.1 v23_27.2.2.2.2.2.2.2.2.2.2.2.2.2.2.2.2.1) ++ (List.take 1 (List.drop 0 [(CV.agg [(CV.int .i64 0), (CV.int .i64 v23_27.2.2.2.2.2.2.2.2.2.2.2.2.1), (CV.int .i64 v23_27.2.2.2.2.2.2.2.2.2.2.2.2.2.1), (CV.int .i64 v23_27.2.1), (CV.slc none v23_27.2.2.2.2.2.2.2.2.2.2.2.2.2.2.2.1)])]))), v23_27.2.2.2.2.2.2.2.2.2.2.2.2.2.2.2.2.2.1, v23_27.2.2.2.2.2.2.2.2.2.2.2.2.2.2.2.2.2.2)))
def f4_L3 {X : Type} (k : Nat) (K : Bool → Option X) (rec1 : Int × Int × Nat × Nat × (List CV) × Int × Int × (List CV) × Nat × (List CV) → Option X) (rec3 : Int × Int × Nat × (List CV) × Int × Int × Nat × Nat × Int × Int × (List CV) × Int × Int × Int × Int × (List CV) × (List CV) × Nat × (List CV) → Option X) (v : Int × Int × Nat × (List CV) × Int × Int × Nat × Nat × Int × Int × (List CV) × Int × Int × Int × Int × (List CV) × (List CV) × Nat × (List CV)) : Option X := f4_T3 k K rec1  rec3 v
set_option maxRecDepth 100000 in
theorem f4_L3_ev {X : Type} (k : Nat) (K : Out → Option X) (r1 : St → Option X) (r3 : St → Option X) (v : Int × Int × Nat × (List CV) × Int × Int × Nat × Nat × Int × Int × (List CV) × Int × Int × Int × Int × (List CV) × (List CV) × Nat × (List CV)) : loopB (f4_cx k) k [.r, .r, .r, .r, .r, .r, .l, .r, .b, .o, .r, .r, .l, .b, .r, .r, .r, .r, .r, .r, .l, .r, .b] (Try.f4.body.getD .skip) (retK (f4_cx k) [] Try.f4.results.toList K) [r1] r3 (f4_S3 v) = f4_T3 k (fun u => K (f4_out u)) (fun v => r1 (f4_S1 v))  (fun v => r3 (f4_S3 v)) v := by kernel_rfl
theorem f4_L3_it {X : Type} (k : Nat) (K : Out → Option X) (r1 : St → Option X) : (fun v => iter (loopB (f4_cx k) k [.r, .r, .r, .r, .r, .r, .l, .r, .b, .o, .r, .r, .l, .b, .r, .r, .r, .r, .r, .r, .l, .r, .b] (Try.f4.body.getD .skip) (retK (f4_cx k) [] Try.f4.results.toList K) [r1]) k (f4_S3 v)) = iterV (f4_L3 k (fun u => K (f4_out u)) (fun v => r1 (f4_S1 v))) k :=
  iter_map (fun r3 v => (f4_L3_ev k K r1 r3 v).trans rfl) k
def f4_T2 {X : Type} (k : Nat) (K : Bool → Option X) (rec1 : Int × Int × Nat × Nat × (List CV) × Int × Int × (List CV) × Nat × (List CV) → Option X) (loop3 : Int × Int × Nat × (List CV) × Int × Int × Nat × Nat × Int × Int × (List CV) × Int × Int × Int × Int × (List CV) × (List CV) × Nat × (List CV) → Option X) (rec2 : Int × Int × Nat × Nat × Nat × (List CV) × Int × Int × Int × Int × (List CV) × Int × Int × Int × Int × (List CV) × (List CV) × Nat × (List CV) → Option X) (v21_22 : Int × Int × Nat × Nat × Nat × (List CV) × Int × Int × Int × Int × (List CV) × Int × Int × Int × Int × (List CV) × (List CV) × Nat × (List CV)) : Option X :=
(bif (decide (v21_22.2.2.2.2.2.2.2.2.2.1 < v21_22.2.2.2.2.2.2.2.2.1)) then
grd (decide (0 ≤ v21_22.2.2.2.2.2.2.2.2.2.1)) <|
grd (decide (v21_22.2.2.2.2.2.2.2.2.2.1 < (Nat.cast (v21_22.2.2.2.2.1) : Int))) <|
Option.bind (v21_22.2.2.2.2.2.2.2.2.2.2.2.2.2.2.2.2.1)[(0 + (Int.toNat v21_22.2.2.2.2.2.2.2.2.2.1))]? fun e27 =>
grd (CV.isI .u8 e27) <|
grd (decide (0 ≤ v21_22.2.2.2.2.2.2.2.2.2.1)) <|
grd (decide (v21_22.2.2.2.2.2.2.2.2.2.1 < (Nat.cast (v21_22.2.2.2.2.1) : Int))) <|
grd (decide ((0 + (Int.toNat v21_22.2.2.2.2.2.2.2.2.2.1)) < (List.length v21_22.2.2.2.2.2.2.2.2.2.2.2.2.2.2.2.2.1))) <|
rec2 (v21_22.1, v21_22.2.1, v21_22.2.2.1, v21_22.2.2.2.1, v21_22.2.2.2.2.1, v21_22.2.2.2.2.2.1, v21_22.2.2.2.2.2.2.1, v21_22.2.2.2.2.2.2.2.1, v21_22.2.2.2.2.2.2.2.2.1, (IntKind.wrap .i64 (v21_22.2.2.2.2.2.2.2.2.2.1 + 1)), v21_22.2.2.2.2.2.2.2.2.2.2.1, v21_22.2.2.2.2.2.2.2.2.2.2.2.1, v21_22.2.2.2.2.2.2.2.2.2.2.2.2.1, v21_22.2.2.2.2.2.2.2.2.2.2.2.2.2.1, v21_22.2.2.2.2.2.2.2.2.2.2.2.2.2.2.1, v21_22.2.2.2.2.2.2.2.2.2.2.2.2.2.2.2.1, (List.set v21_22.2.2.2.2.2.2.2.2.2.2.2.2.2.2.2.2.1 (0 + (Int.toNat v21_22.2.2.2.2.2.2.2.2.2.1)) (CV.int .u8 (IntKind.wrap .u8 ((CV.toI e27) + 1)))), v21_22.2.2.2.2.2.2.2.2.2.2.2.2.2.2.2.2.2.1, v21_22.2.2.2.2.2.2.2.2.2.2.2.2.2.2.2.2.2.2)
else
loop3 (v21_22.1, v21_22.2.1, 0, v21_22.2.2.2.2.2.1, v21_22.2.2.2.2.2.2.1, v21_22.2.2.2.2.2.2.2.1, v21_22.2.2.1, v21_22.2.2.2.1, (Nat.cast (v21_22.2.2.2.1) : Int), 0, v21_22.2.2.2.2.2.2.2.2.2.2.1, v21_22.2.2.2.2.2.2.2.2.2.2.2.1, v21_22.2.2.2.2.2.2.2.2.2.2.2.2.1, v21_22.2.2.2.2.2.2.2.2.2.2.2.2.2.1, v21_22.2.2.2.2.2.2.2.2.2.2.2.2.2.2.1, v21_22.2.2.2.2.2.2.2.2.2.2.2.2.2.2.2.1, [], v21_22.2.2.2.2.2.2.2.2.2.2.2.2.2.2.2.2.2.1, v21_22.2.2.2.2.2.2.2.2.2.2.2.2.2.2.2.2.2.2))
def f4_L2 {X : Type} (k : Nat) (K : Bool → Option X) (rec1 : Int × Int × Nat × Nat × (List CV) × Int × Int × (List CV) × Nat × (List CV) → Option X) (rec2 : Int × Int × Nat × Nat × Nat × (List CV) × Int × Int × Int × Int × (List CV) × Int × Int × Int × Int × (List CV) × (List CV) × Nat × (List CV) → Option X) (v : Int × Int × Nat × Nat × Nat × (List CV) × Int × Int × Int × Int × (List CV) × Int × Int × Int × Int × (List CV) × (List CV) × Nat × (List CV)) : Option X := f4_T2 k K rec1 (iterV (f4_L3 k K rec1) k) rec2 v
set_option maxRecDepth 100000 in
theorem f4_L2_ev {X : Type} (k : Nat) (K : Out → Option X) (r1 : St → Option X) (r2 : St → Option X) (v : Int × Int × Nat × Nat × Nat × (List CV) × Int × Int × Int × Int × (List CV) × Int × Int × Int × Int × (List CV) × (List CV) × Nat × (List CV)) : loopB (f4_cx k) k [.r, .r, .r, .r, .r, .r, .l, .r, .b, .o, .r, .r, .l, .b, .r, .r, .r, .r, .l, .r, .b] (Try.f4.body.getD .skip) (retK (f4_cx k) [] Try.f4.results.toList K) [r1] r2 (f4_S2 v) = f4_T2 k (fun u => K (f4_out u)) (fun v => r1 (f4_S1 v)) (fun v => iter (loopB (f4_cx k) k [.r, .r, .r, .r, .r, .r, .l, .r, .b, .o, .r, .r, .l, .b, .r, .r, .r, .r, .r, .r, .l, .r, .b] (Try.f4.body.getD .skip) (retK (f4_cx k) [] Try.f4.results.toList K) [r1]) k (f4_S3 v)) (fun v => r2 (f4_S2 v)) v := by kernel_rfl
theorem f4_L2_it {X : Type} (k : Nat) (K : Out → Option X) (r1 : St → Option X) : (fun v => iter (loopB (f4_cx k) k [.r, .r, .r, .r, .r, .r, .l, .r, .b, .o, .r, .r, .l, .b, .r, .r, .r, .r, .l, .r, .b] (Try.f4.body.getD .skip) (retK (f4_cx k) [] Try.f4.results.toList K) [r1]) k (f4_S2 v)) = iterV (f4_L2 k (fun u => K (f4_out u)) (fun v => r1 (f4_S1 v))) k :=
  iter_map (fun r2 v => (f4_L2_ev k K r1 r2 v).trans (by rw [f4_L3_it k K r1]; rfl)) k
def f4_T1 {X : Type} (k : Nat) (K : Bool → Option X)  (loop2 : Int × Int × Nat × Nat × Nat × (List CV) × Int × Int × Int × Int × (List CV) × Int × Int × Int × Int × (List CV) × (List CV) × Nat × (List CV) → Option X) (loop4 : Int × Nat × Nat × Int × Int × (List CV) × Nat × (List CV) → Option X) (rec1 : Int × Int × Nat × Nat × (List CV) × Int × Int × (List CV) × Nat × (List CV) → Option X) (v9_5 : Int × Int × Nat × Nat × (List CV) × Int × Int × (List CV) × Nat × (List CV)) : Option X :=
(bif (decide (v9_5.2.2.2.2.2.2.1 < v9_5.2.2.2.2.2.1)) then
grd (decide (0 ≤ v9_5.2.2.2.2.2.2.1)) <|
Option.bind (v9_5.2.2.2.2.1)[(Int.toNat v9_5.2.2.2.2.2.2.1)]? fun e20 =>
grd (CV.isA 5 e20) <|
grd (CV.isI .i64 (CV.cellD 0 e20)) <|
grd (CV.isI .i64 (CV.cellD 1 e20)) <|
grd (CV.isI .i64 (CV.cellD 2 e20)) <|
grd (CV.isI .i64 (CV.cellD 3 e20)) <|
grd (CV.isL none (CV.cellD 4 e20)) <|
f17 k (fun u21 =>
f9 k (fun u22 =>
loop2 (v9_5.1, (IntKind.wrap .i64 (v9_5.2.1 + (bop .and .i64 (CV.toI (CV.cellD 3 e20)) 31))), v9_5.2.2.1, v9_5.2.2.2.1, u21.1, v9_5.2.2.2.2.1, v9_5.2.2.2.2.2.1, v9_5.2.2.2.2.2.2.1, (Nat.cast (u21.1) : Int), 0, v9_5.2.2.2.2.2.2.2.1, (CV.toI (CV.cellD 0 e20)), (CV.toI (CV.cellD 1 e20)), (CV.toI (CV.cellD 2 e20)), (CV.toI (CV.cellD 3 e20)), (CV.toL (CV.cellD 4 e20)), u21.2, u22.1, u22.2)) ((CV.toI (CV.cellD 1 e20))) ((CV.toI (CV.cellD 2 e20))) ((IntKind.wrap .i64 (v9_5.2.1 + (bop .and .i64 (CV.toI (CV.cellD 3 e20)) 31)))) ((List.take u21.1 (List.drop 0 u21.2))) (v9_5.2.2.2.2.2.2.2.2.1) (v9_5.2.2.2.2.2.2.2.2.2)) ((CV.toL (CV.cellD 4 e20)))
else
loop4 ((IntKind.wrap .i64 (v9_5.2.1 + (bop .and .i64 v9_5.1 511))), v9_5.2.2.1, v9_5.2.2.2.1, (Nat.cast (v9_5.2.2.2.1) : Int), 0, v9_5.2.2.2.2.2.2.2.1, v9_5.2.2.2.2.2.2.2.2.1, v9_5.2.2.2.2.2.2.2.2.2))
def f4_L1 {X : Type} (k : Nat) (K : Bool → Option X)  (rec1 : Int × Int × Nat × Nat × (List CV) × Int × Int × (List CV) × Nat × (List CV) → Option X) (v : Int × Int × Nat × Nat × (List CV) × Int × Int × (List CV) × Nat × (List CV)) : Option X := f4_T1 k K  (iterV (f4_L2 k K rec1) k) (iterV (f4_L4 k K ) k) rec1 v
set_option maxRecDepth 100000 in
theorem f4_L1_ev {X : Type} (k : Nat) (K : Out → Option X)  (r1 : St → Option X) (v : Int × Int × Nat × Nat × (List CV) × Int × Int × (List CV) × Nat × (List CV)) : loopB (f4_cx k) k [.r, .r, .r, .r, .r, .r, .l, .r, .b] (Try.f4.body.getD .skip) (retK (f4_cx k) [] Try.f4.results.toList K) [] r1 (f4_S1 v) = f4_T1 k (fun u => K (f4_out u))  (fun v => iter (loopB (f4_cx k) k [.r, .r, .r, .r, .r, .r, .l, .r, .b, .o, .r, .r, .l, .b, .r, .r, .r, .r, .l, .r, .b] (Try.f4.body.getD .skip) (retK (f4_cx k) [] Try.f4.results.toList K) [r1]) k (f4_S2 v)) (fun v => iter (loopB (f4_cx k) k [.r, .r, .r, .r, .r, .r, .r, .r, .l, .r, .b] (Try.f4.body.getD .skip) (retK (f4_cx k) [] Try.f4.results.toList K) []) k (f4_S4 v)) (fun v => r1 (f4_S1 v)) v := by kernel_rfl
theorem f4_L1_it {X : Type} (k : Nat) (K : Out → Option X)  : (fun v => iter (loopB (f4_cx k) k [.r, .r, .r, .r, .r, .r, .l, .r, .b] (Try.f4.body.getD .skip) (retK (f4_cx k) [] Try.f4.results.toList K) []) k (f4_S1 v)) = iterV (f4_L1 k (fun u => K (f4_out u)) ) k :=
  iter_map (fun r1 v => (f4_L1_ev k K  r1 v).trans (by rw [f4_L2_it k K r1, f4_L4_it k K ]; rfl)) k
def f4_T {X : Type} (k : Nat) (K : Bool → Option X) (loop1 : Int × Int × Nat × Nat × (List CV) × Int × Int × (List CV) × Nat × (List CV) → Option X) (x0 : List CV) (x1 : Int) : Option X :=
f6 k (fun u2 =>
(bif (!u2) then
K (false)
else
f7 k (fun u4 =>
(bif (!u4) then
K (true)
else
f8 k (fun u5 =>
loop1 (x1, 0, 0, 0, x0, (Nat.cast ((List.length x0)) : Int), 0, [], 0, u5)) )) (x0))) 
/-- "outpost/outpostlaw11.CacheLast" -/
def f4 {X : Type} (k : Nat) (K : Bool → Option X) (x0 : List CV) (x1 : Int) : Option X := f4_T k K (iterV (f4_L1 k K) k) x0 x1
set_option maxRecDepth 100000 in
theorem f4_ev' {X : Type} (k : Nat) (K : Out → Option X) (x0 : List CV) (x1 : Int) : evFn (f4_cx k) [] k Try.f4.ntmps Try.f4.results.toList (Try.f4.body.getD .skip) [(.sl true (some 5) x0), (.v (CV.int .i64 x1))] [] K = f4_T k (fun u => K (f4_out u)) (fun v => iter (loopB (f4_cx k) k [.r, .r, .r, .r, .r, .r, .l, .r, .b] (Try.f4.body.getD .skip) (retK (f4_cx k) [] Try.f4.results.toList K) []) k (f4_S1 v)) x0 x1 := by kernel_rfl
theorem f4_ev {X : Type} (k : Nat) (K : Out → Option X) (x0 : List CV) (x1 : Int) : evFn (f4_cx k) [] k Try.f4.ntmps Try.f4.results.toList (Try.f4.body.getD .skip) [(.sl true (some 5) x0), (.v (CV.int .i64 x1))] [] K = f4 k (fun u => K (f4_out u)) x0 x1 := (f4_ev' k K x0 x1).trans (by rw [f4_L1_it k K]; rfl)
def f4_c (k : Nat) : FnC := fun X xs ns K => match xs, ns with
  | [(.sl true (some 5) x0), (.v (CV.int .i64 x1))], [] => f4 k (fun u => K (f4_out u)) x0 x1
  | _, _ => none
theorem f4_ok (k : Nat) : AnsOk Try.prog 4 (f4_c k) := by
  intro X xs ns K x h
  unfold f4_c at h ⊢
  split at h
  · exact ans_main S (f4_Cok k) Try.func4 (ent_of Try.func4 (by kernel_rfl) rfl) rfl (fun X K => f4_ev k K _ _) h
  · cases h
end Go.Proofs.YtpgmebpkagbmoaaD
