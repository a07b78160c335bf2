/- Functions of the program, as plain Lean functions: each with the proof that the evaluator computes it. (Printed by wip/dec/dec.py.) -/
import Derived.Test.YtidniahglagllaaTN
import Derived.Test.YtidniahglagllaaTO
import Derived.Test.YtidniahglagllaaProg
import Derived.Test.YtidniahglagllaaChecked
namespace Go.Proofs.YtidniahglagllaaD
open Go Go.Proofs.YtidniahglagllaaS Go.Proofs
set_option linter.unusedVariables false
def rows : List (Nat × TI) := [
  (2, ⟨(.int .i64), 1, 8, .v (.int .i64 0)⟩),
  (3, ⟨(.int .i64), 1, 8, .v (.int .i64 0)⟩),
  (4, ⟨.bool, 1, 1, .v (.bool false)⟩),
  (5, ⟨(.int .u8), 1, 1, .v (.int .u8 0)⟩),
  (23, ⟨(.struct [(0, 3), (1, 4), (2, 3)]), 3, 24, .v (.agg [(.int .i64 0), (.bool false), (.int .i64 0)])⟩),
  (24, ⟨(.slice 5), 1, 24, .nil0 none⟩),
  (26, ⟨(.int .i64), 1, 8, .v (.int .i64 0)⟩),
  (31, ⟨(.struct [(0, 3), (1, 4), (2, 3)]), 3, 24, .v (.agg [(.int .i64 0), (.bool false), (.int .i64 0)])⟩),
  (41, ⟨(.slice 43), 1, 24, .nil0 (some 4)⟩),
  (43, ⟨(.struct [(0, 23), (3, 24)]), 4, 48, .agg [.v (.int .i64 0), .v (.bool false), .v (.int .i64 0), .nil0 none]⟩),
  (44, ⟨(.ptr 68), 1, 8, .v .nilp⟩),
  (47, ⟨(.struct [(0, 3), (1, 24), (2, 4)]), 3, 40, .agg [.v (.int .i64 0), .nil0 none, .v (.bool false)]⟩),
  (68, ⟨(.struct [(0, 3), (1, 24), (2, 4)]), 3, 40, .agg [.v (.int .i64 0), .nil0 none, .v (.bool false)]⟩),
  (71, ⟨(.slice 24), 1, 24, .nil0 none⟩)]
set_option maxRecDepth 100000 in
theorem rows_ok : rowsAre Try.prog rows = true := by kernel_rfl
def cmps : List Nat := [31]
theorem cmps_ok : cmpsAre Try.prog cmps = true := by kernel_rfl
def S : Seat Try.prog := ⟨rows, rows_ok, Try.checked.mixed, cmps, cmps_ok⟩
def md (g : FuncId) (i : Nat) : Nat := (bif Nat.beq g 33 && Nat.beq i 0 then 2 else (bif Nat.beq g 19 && Nat.beq i 2 then 1 else (bif Nat.beq g 19 && Nat.beq i 0 then 1 else 0)))
def setCell {X : Type} (e : CV) (j : Nat) (c : CV) (K : CV → Option X) : Option X := match e with
  | .agg ds => grd (Nat.blt j ds.length) (K (.agg (ds.set j c)))
  | _ => none
abbrev f23_R : Type 1 := (X : Type) → (Int × Bool → Option X) → Int → Option X
def f23_out (u : Int × Bool) : Out := ⟨(.tup [(.v (CV.int .i64 u.1)), (.v (CV.bool u.2))]), []⟩
def f23_cOf (R : f23_R) : FnC := fun X xs ns K => match xs, ns with
  | [(.v (CV.int .i64 x0))], [] => R X (fun u => K (f23_out u)) x0
  | _, _ => none
def f23_plan : Nat → Option (List Nat × List Wk)
  | 0 => some ([0], [])
  | 1 => some ([0], [])
  | 2 => some ([0, 5], [])
  | 3 => some ([0, 5], [])
  | 4 => some ([0, 4, 5], [])
  | 5 => some ([4], [])
  | 6 => some ([0, 5], [])
  | 7 => some ([], [])
  | _ => none
def f23_C : Fns := noC
theorem f23_Cok : CsOk Try.prog (f23_C) := noC_ok
def f23_cx : Cx := mkCx (tabOf rows) (f23_C) md (cmpIn cmps) f23_plan (f23_Cok)
def f23_S1 (v : Int × Int) : St := ⟨[(.v (CV.int .i64 v.1)), .undef, .undef, .undef, .undef, (.v (CV.int .i64 v.2)), .undef, .undef, .undef, .undef, .undef, .undef, .undef, .undef], []⟩
def f23_T1 {X : Type} (k : Nat) (K : Int × Bool → Option X)   (rec1 : Int × Int → Option X) (v4_0 : Int × Int) : Option X :=
(bif (decide (v4_0.2 < 7)) then
grd (decide (0 ≤ v4_0.2)) <|
(bif ((IntKind.wrap .i64 (16 * 2 ^ (min (Int.toNat v4_0.2) 64))) == v4_0.1) then
K (v4_0.2, true)
else
rec1 (v4_0.1, (IntKind.wrap .i64 (v4_0.2 + 1))))
else
K (0, false))
def f23_L1 {X : Type} (k : Nat) (K : Int × Bool → Option X)  (rec1 : Int × Int → Option X) (v : Int × Int) : Option X := f23_T1 k K   rec1 v
set_option maxRecDepth 100000 in
theorem f23_L1_ev {X : Type} (k : Nat) (K : Out → Option X)  (r1 : St → Option X) (v : Int × Int) : loopB (f23_cx) k [.r, .l, .r, .b] (Try.f23.body.getD .skip) (retK (f23_cx) [] Try.f23.results.toList K) [] r1 (f23_S1 v) = f23_T1 k (fun u => K (f23_out u))   (fun v => r1 (f23_S1 v)) v := by kernel_rfl
theorem f23_L1_it {X : Type} (k : Nat) (K : Out → Option X)  : (fun v => iter (loopB (f23_cx) k [.r, .l, .r, .b] (Try.f23.body.getD .skip) (retK (f23_cx) [] Try.f23.results.toList K) []) k (f23_S1 v)) = iterV (f23_L1 k (fun u => K (f23_out u)) ) k :=
  iter_map (fun r1 v => (f23_L1_ev k K  r1 v).trans rfl) k
def f23_T {X : Type} (k : Nat) (K : Int × Bool → Option X) (loop1 : Int × Int → Option X) (x0 : Int) : Option X :=
loop1 (x0, 0)
/-- "outpost/block.scale" -/
def f23_A (k : Nat) : f23_R := fun X K x0 => f23_T k K (iterV (f23_L1 k K) k) x0
set_option maxRecDepth 100000 in
theorem f23_ev' {X : Type} (k : Nat) (K : Out → Option X) (x0 : Int) : evFn (f23_cx) [] k Try.f23.ntmps Try.f23.results.toList (Try.f23.body.getD .skip) [(.v (CV.int .i64 x0))] [] K = f23_T k (fun u => K (f23_out u)) (fun v => iter (loopB (f23_cx) k [.r, .l, .r, .b] (Try.f23.body.getD .skip) (retK (f23_cx) [] Try.f23.results.toList K) []) k (f23_S1 v)) x0 := by kernel_rfl
theorem f23_ev {X : Type} (k : Nat) (K : Out → Option X) (x0 : Int) : evFn (f23_cx) [] k Try.f23.ntmps Try.f23.results.toList (Try.f23.body.getD .skip) [(.v (CV.int .i64 x0))] [] K = f23_A k X (fun u => K (f23_out u)) x0 := (f23_ev' k K x0).trans (by rw [f23_L1_it k K]; rfl)
theorem f23_okA (k : Nat) : AnsOk Try.prog 23 (f23_cOf (f23_A k)) := by
  intro X xs ns K x h
  unfold f23_cOf at h ⊢
  split at h
  · exact ans_main S (f23_Cok) Try.func23 (ent_of Try.func23 (by kernel_rfl) rfl) rfl (fun X K => f23_ev k K _) h
  · cases h
/-- "outpost/block.scale" -/
def f23 {X : Type} (k : Nat) (K : Int × Bool → Option X) (x0 : Int) : Option X := f23_A k X K x0
theorem f23_ok (k : Nat) : AnsOk Try.prog 23 (f23_cOf (fun X => @f23 X k)) := f23_okA k
abbrev f22_R : Type 1 := (X : Type) → (Bool → Option X) → Int → Int → Option X
def f22_out (u : Bool) : Out := ⟨(.v (CV.bool u)), []⟩
def f22_cOf (R : f22_R) : FnC := fun X xs ns K => match xs, ns with
  | [(.v (CV.int .i64 x0)), (.v (CV.int .i64 x1))], [] => R X (fun u => K (f22_out u)) x0 x1
  | _, _ => none
def f22_plan : Nat → Option (List Nat × List Wk)
  | 0 => some ([0, 1], [])
  | 1 => some ([0, 1], [])
  | 2 => some ([0, 6], [])
  | _ => none
def f22_C (R_f23 : f23_R) : Fns := (orC 23 (f23_cOf R_f23) noC)
theorem f22_Cok (R_f23 : f23_R) (hR_f23 : AnsOk Try.prog 23 (f23_cOf R_f23)) : CsOk Try.prog (f22_C R_f23) := (orC_ok hR_f23 noC_ok)
def f22_cx (R_f23 : f23_R) (hR_f23 : AnsOk Try.prog 23 (f23_cOf R_f23)) : Cx := mkCx (tabOf rows) (f22_C R_f23) md (cmpIn cmps) f22_plan (f22_Cok R_f23 hR_f23)
def f22_T {X : Type} (R_f23 : f23_R) (k : Nat) (K : Bool → Option X)  (x0 : Int) (x1 : Int) : Option X :=
R_f23 _ (fun u1 =>
(bif u1.2 then
(bif (decide (x0 ≥ 0)) then
K ((decide (x0 ≤ 1048575)))
else
K (false))
else
K (false))) (x1)
/-- "outpost/block.right" -/
def f22_A (R_f23 : f23_R) (k : Nat) : f22_R := fun X K x0 x1 => f22_T R_f23 k K  x0 x1
set_option maxRecDepth 100000 in
theorem f22_ev' {X : Type} (R_f23 : f23_R) (hR_f23 : AnsOk Try.prog 23 (f23_cOf R_f23)) (k : Nat) (K : Out → Option X) (x0 : Int) (x1 : Int) : evFn (f22_cx R_f23 hR_f23) [] k Try.f22.ntmps Try.f22.results.toList (Try.f22.body.getD .skip) [(.v (CV.int .i64 x0)), (.v (CV.int .i64 x1))] [] K = f22_T R_f23 k (fun u => K (f22_out u)) x0 x1 := by kernel_rfl
theorem f22_ev {X : Type} (R_f23 : f23_R) (hR_f23 : AnsOk Try.prog 23 (f23_cOf R_f23)) (k : Nat) (K : Out → Option X) (x0 : Int) (x1 : Int) : evFn (f22_cx R_f23 hR_f23) [] k Try.f22.ntmps Try.f22.results.toList (Try.f22.body.getD .skip) [(.v (CV.int .i64 x0)), (.v (CV.int .i64 x1))] [] K = f22_A R_f23 k X (fun u => K (f22_out u)) x0 x1 := (f22_ev' R_f23 hR_f23 k K x0 x1).trans rfl
theorem f22_okA (R_f23 : f23_R) (hR_f23 : AnsOk Try.prog 23 (f23_cOf R_f23)) (k : Nat) : AnsOk Try.prog 22 (f22_cOf (f22_A R_f23 k)) := by
  intro X xs ns K x h
  unfold f22_cOf at h ⊢
  split at h
  · exact ans_main S (f22_Cok R_f23 hR_f23) Try.func22 (ent_of Try.func22 (by kernel_rfl) rfl) rfl (fun X K => f22_ev R_f23 hR_f23 k K _ _) h
  · cases h
/-- "outpost/block.right" -/
def f22 {X : Type} (k : Nat) (K : Bool → Option X) (x0 : Int) (x1 : Int) : Option X := f22_A (fun X => @f23 X k) k X K x0 x1
theorem f22_ok (k : Nat) : AnsOk Try.prog 22 (f22_cOf (fun X => @f22 X k)) := f22_okA (fun X => @f23 X k) (f23_ok k) k
abbrev f33_R : Type 1 := (X : Type) → ((List CV) → Option X) → Nat → (List CV) → Option X
def f33_out (u : (List CV)) : Out := ⟨(.tup []), [([1000], (.row false none u))]⟩
def f33_cOf (R : f33_R) : FnC := fun X xs ns K => match xs, ns with
  | [(.osl [1000] none 0 x0)], [([1000], (.row false none x1))] => R X (fun u => K (f33_out u)) x0 x1
  | _, _ => none
def f33_plan : Nat → Option (List Nat × List Wk)
  | 0 => some ([0], [])
  | 1 => some ([0, 2, 3], [])
  | 2 => some ([0, 2, 3], [])
  | 3 => some ([0, 2, 3], [])
  | _ => none
def f33_C : Fns := noC
theorem f33_Cok : CsOk Try.prog (f33_C) := noC_ok
def f33_cx : Cx := mkCx (tabOf rows) (f33_C) md (cmpIn cmps) f33_plan (f33_Cok)
def f33_S1 (v : Nat × Int × Int × (List CV)) : St := ⟨[(.osl [1000] none 0 v.1), .undef, (.v (CV.int .i64 v.2.1)), (.v (CV.int .i64 v.2.2.1)), .undef, .undef, .undef, .undef, .undef, .undef, .undef, .undef, .undef, .undef, .undef, .undef, .undef, .undef, .undef, .undef, .undef, .undef, .undef, .undef, .undef, .undef, .undef, .undef], [([1000], (.row false none v.2.2.2))]⟩
def f33_T1 {X : Type} (k : Nat) (K : (List CV) → Option X)   (rec1 : Nat × Int × Int × (List CV) → Option X) (v2_0 : Nat × Int × Int × (List CV)) : Option X :=
(bif (decide (v2_0.2.1 < v2_0.2.2.1)) then
grd (decide (0 ≤ v2_0.2.2.1)) <|
grd (decide (v2_0.2.2.1 < (Nat.cast (v2_0.1) : Int))) <|
Option.bind (v2_0.2.2.2)[(0 + (Int.toNat v2_0.2.2.1))]? fun e8 =>
grd (CV.isI .u8 e8) <|
grd (decide (0 ≤ v2_0.2.1)) <|
grd (decide (v2_0.2.1 < (Nat.cast (v2_0.1) : Int))) <|
Option.bind (v2_0.2.2.2)[(0 + (Int.toNat v2_0.2.1))]? fun e9 =>
grd (CV.isI .u8 e9) <|
grd (decide (0 ≤ v2_0.2.1)) <|
grd (decide (v2_0.2.1 < (Nat.cast (v2_0.1) : Int))) <|
grd (decide ((0 + (Int.toNat v2_0.2.1)) < (List.length v2_0.2.2.2))) <|
grd (decide (0 ≤ v2_0.2.2.1)) <|
grd (decide (v2_0.2.2.1 < (Nat.cast (v2_0.1) : Int))) <|
grd (decide ((0 + (Int.toNat v2_0.2.2.1)) < (List.length (List.set v2_0.2.2.2 (0 + (Int.toNat v2_0.2.1)) (CV.int .u8 (CV.toI e8)))))) <|
rec1 (v2_0.1, (IntKind.wrap .i64 (v2_0.2.1 + 1)), (IntKind.wrap .i64 (v2_0.2.2.1 - 1)), (List.set (List.set v2_0.2.2.2 (0 + (Int.toNat v2_0.2.1)) (CV.int .u8 (CV.toI e8))) (0 + (Int.toNat v2_0.2.2.1)) (CV.int .u8 (CV.toI e9))))
else
K (v2_0.2.2.2))
def f33_L1 {X : Type} (k : Nat) (K : (List CV) → Option X)  (rec1 : Nat × Int × Int × (List CV) → Option X) (v : Nat × Int × Int × (List CV)) : Option X := f33_T1 k K   rec1 v
set_option maxRecDepth 100000 in
theorem f33_L1_ev {X : Type} (k : Nat) (K : Out → Option X)  (r1 : St → Option X) (v : Nat × Int × Int × (List CV)) : loopB (f33_cx) k [.r, .b] (Try.f33.body.getD .skip) (retK (f33_cx) [] Try.f33.results.toList K) [] r1 (f33_S1 v) = f33_T1 k (fun u => K (f33_out u))   (fun v => r1 (f33_S1 v)) v := by kernel_rfl
theorem f33_L1_it {X : Type} (k : Nat) (K : Out → Option X)  : (fun v => iter (loopB (f33_cx) k [.r, .b] (Try.f33.body.getD .skip) (retK (f33_cx) [] Try.f33.results.toList K) []) k (f33_S1 v)) = iterV (f33_L1 k (fun u => K (f33_out u)) ) k :=
  iter_map (fun r1 v => (f33_L1_ev k K  r1 v).trans rfl) k
def f33_T {X : Type} (k : Nat) (K : (List CV) → Option X) (loop1 : Nat × Int × Int × (List CV) → Option X) (x0 : Nat) (x1 : List CV) : Option X :=
loop1 (x0, 0, (IntKind.wrap .i64 ((Nat.cast (x0) : Int) - 1)), x1)
/-- "slices.Reverse[[]byte,byte]" -/
def f33_A (k : Nat) : f33_R := fun X K x0 x1 => f33_T k K (iterV (f33_L1 k K) k) x0 x1
set_option maxRecDepth 100000 in
theorem f33_ev' {X : Type} (k : Nat) (K : Out → Option X) (x0 : Nat) (x1 : List CV) : evFn (f33_cx) [] k Try.f33.ntmps Try.f33.results.toList (Try.f33.body.getD .skip) [(.osl [1000] none 0 x0)] [([1000], (.row false none x1))] K = f33_T k (fun u => K (f33_out u)) (fun v => iter (loopB (f33_cx) k [.r, .b] (Try.f33.body.getD .skip) (retK (f33_cx) [] Try.f33.results.toList K) []) k (f33_S1 v)) x0 x1 := by kernel_rfl
theorem f33_ev {X : Type} (k : Nat) (K : Out → Option X) (x0 : Nat) (x1 : List CV) : evFn (f33_cx) [] k Try.f33.ntmps Try.f33.results.toList (Try.f33.body.getD .skip) [(.osl [1000] none 0 x0)] [([1000], (.row false none x1))] K = f33_A k X (fun u => K (f33_out u)) x0 x1 := (f33_ev' k K x0 x1).trans (by rw [f33_L1_it k K]; rfl)
theorem f33_okA (k : Nat) : AnsOk Try.prog 33 (f33_cOf (f33_A k)) := by
  intro X xs ns K x h
  unfold f33_cOf at h ⊢
  split at h
  · exact ans_main S (f33_Cok) Try.func33 (ent_of Try.func33 (by kernel_rfl) rfl) rfl (fun X K => f33_ev k K _ _) h
  · cases h
/-- "slices.Reverse[[]byte,byte]" -/
def f33 {X : Type} (k : Nat) (K : (List CV) → Option X) (x0 : Nat) (x1 : List CV) : Option X := f33_A k X K x0 x1
theorem f33_ok (k : Nat) : AnsOk Try.prog 33 (f33_cOf (fun X => @f33 X k)) := f33_okA k
abbrev f24_R : Type 1 := (X : Type) → (Nat × (List CV) → Option X) → Int → Option X
def f24_out (u : Nat × (List CV)) : Out := ⟨(.osl [2000] none 0 u.1), [([2000], (.row false none u.2))]⟩
def f24_cOf (R : f24_R) : FnC := fun X xs ns K => match xs, ns with
  | [(.v (CV.int .i64 x0))], [] => R X (fun u => K (f24_out u)) x0
  | _, _ => none
def f24_plan : Nat → Option (List Nat × List Wk)
  | 0 => some ([0], [])
  | 1 => some ([0], [])
  | 2 => some ([0, 3], [⟨3, [], some [3]⟩])
  | 3 => some ([0, 3], [])
  | 4 => some ([0, 3], [])
  | 5 => some ([3], [])
  | 6 => some ([3], [])
  | _ => none
def f24_C (R_f33 : f33_R) : Fns := (orC 33 (f33_cOf R_f33) noC)
theorem f24_Cok (R_f33 : f33_R) (hR_f33 : AnsOk Try.prog 33 (f33_cOf R_f33)) : CsOk Try.prog (f24_C R_f33) := (orC_ok hR_f33 noC_ok)
def f24_cx (R_f33 : f33_R) (hR_f33 : AnsOk Try.prog 33 (f33_cOf R_f33)) : Cx := mkCx (tabOf rows) (f24_C R_f33) md (cmpIn cmps) f24_plan (f24_Cok R_f33 hR_f33)
def f24_S1 (v : Int × Nat × (List CV)) : St := ⟨[(.v (CV.int .i64 v.1)), .undef, .undef, (.osl [3] none 0 v.2.1), .undef, .undef, .undef, .undef, .undef, .undef, .undef, .undef, .undef, .undef, .undef, .undef], [([3], (.row false none v.2.2))]⟩
def f24_T1 {X : Type} (R_f33 : f33_R) (k : Nat) (K : Nat × (List CV) → Option X)   (rec1 : Int × Nat × (List CV) → Option X) (v4_0 : Int × Nat × (List CV)) : Option X :=
(bif (decide (v4_0.1 > 0)) then
grd (decide ((v4_0.2.1 + (List.length (List.take 1 (List.drop 0 [(CV.int .u8 (IntKind.wrap .u8 v4_0.1))])))) * 1 ≤ 140737488355328)) <|
rec1 ((Int.fdiv v4_0.1 (2 ^ 8)), (v4_0.2.1 + (List.length (List.take 1 (List.drop 0 [(CV.int .u8 (IntKind.wrap .u8 v4_0.1))])))), ((List.take v4_0.2.1 v4_0.2.2) ++ (List.take 1 (List.drop 0 [(CV.int .u8 (IntKind.wrap .u8 v4_0.1))]))))
else
R_f33 _ (fun u2 =>
K (v4_0.2.1, (List.take (0 + v4_0.2.1) u2))) (v4_0.2.1) (v4_0.2.2))
def f24_L1 {X : Type} (R_f33 : f33_R) (k : Nat) (K : Nat × (List CV) → Option X)  (rec1 : Int × Nat × (List CV) → Option X) (v : Int × Nat × (List CV)) : Option X := f24_T1 R_f33 k K   rec1 v
set_option maxRecDepth 100000 in
theorem f24_L1_ev {X : Type} (R_f33 : f33_R) (hR_f33 : AnsOk Try.prog 33 (f33_cOf R_f33)) (k : Nat) (K : Out → Option X)  (r1 : St → Option X) (v : Int × Nat × (List CV)) : loopB (f24_cx R_f33 hR_f33) k [.r, .r, .l, .b] (Try.f24.body.getD .skip) (retK (f24_cx R_f33 hR_f33) [] Try.f24.results.toList K) [] r1 (f24_S1 v) = f24_T1 R_f33 k (fun u => K (f24_out u))   (fun v => r1 (f24_S1 v)) v := by kernel_rfl
theorem f24_L1_it {X : Type} (R_f33 : f33_R) (hR_f33 : AnsOk Try.prog 33 (f33_cOf R_f33)) (k : Nat) (K : Out → Option X)  : (fun v => iter (loopB (f24_cx R_f33 hR_f33) k [.r, .r, .l, .b] (Try.f24.body.getD .skip) (retK (f24_cx R_f33 hR_f33) [] Try.f24.results.toList K) []) k (f24_S1 v)) = iterV (f24_L1 R_f33 k (fun u => K (f24_out u)) ) k :=
  iter_map (fun r1 v => (f24_L1_ev R_f33 hR_f33 k K  r1 v).trans rfl) k
def f24_T {X : Type} (R_f33 : f33_R) (k : Nat) (K : Nat × (List CV) → Option X) (loop1 : Int × Nat × (List CV) → Option X) (x0 : Int) : Option X :=
loop1 (x0, 0, [])
/-- "outpost/opt.Uint" -/
def f24_A (R_f33 : f33_R) (k : Nat) : f24_R := fun X K x0 => f24_T R_f33 k K (iterV (f24_L1 R_f33 k K) k) x0
set_option maxRecDepth 100000 in
theorem f24_ev' {X : Type} (R_f33 : f33_R) (hR_f33 : AnsOk Try.prog 33 (f33_cOf R_f33)) (k : Nat) (K : Out → Option X) (x0 : Int) : evFn (f24_cx R_f33 hR_f33) [] k Try.f24.ntmps Try.f24.results.toList (Try.f24.body.getD .skip) [(.v (CV.int .i64 x0))] [] K = f24_T R_f33 k (fun u => K (f24_out u)) (fun v => iter (loopB (f24_cx R_f33 hR_f33) k [.r, .r, .l, .b] (Try.f24.body.getD .skip) (retK (f24_cx R_f33 hR_f33) [] Try.f24.results.toList K) []) k (f24_S1 v)) x0 := by kernel_rfl
theorem f24_ev {X : Type} (R_f33 : f33_R) (hR_f33 : AnsOk Try.prog 33 (f33_cOf R_f33)) (k : Nat) (K : Out → Option X) (x0 : Int) : evFn (f24_cx R_f33 hR_f33) [] k Try.f24.ntmps Try.f24.results.toList (Try.f24.body.getD .skip) [(.v (CV.int .i64 x0))] [] K = f24_A R_f33 k X (fun u => K (f24_out u)) x0 := (f24_ev' R_f33 hR_f33 k K x0).trans (by rw [f24_L1_it R_f33 hR_f33 k K]; rfl)
theorem f24_okA (R_f33 : f33_R) (hR_f33 : AnsOk Try.prog 33 (f33_cOf R_f33)) (k : Nat) : AnsOk Try.prog 24 (f24_cOf (f24_A R_f33 k)) := by
  intro X xs ns K x h
  unfold f24_cOf at h ⊢
  split at h
  · exact ans_main S (f24_Cok R_f33 hR_f33) Try.func24 (ent_of Try.func24 (by kernel_rfl) rfl) rfl (fun X K => f24_ev R_f33 hR_f33 k K _) h
  · cases h
/-- "outpost/opt.Uint" -/
def f24 {X : Type} (k : Nat) (K : Nat × (List CV) → Option X) (x0 : Int) : Option X := f24_A (fun X => @f33 X k) k X K x0
theorem f24_ok (k : Nat) : AnsOk Try.prog 24 (f24_cOf (fun X => @f24 X k)) := f24_okA (fun X => @f33 X k) (f33_ok k) k
abbrev f8_R : Type 1 := (X : Type) → (Nat × Int × (List CV) → Option X) → CV → Option X
def f8_out (u : Nat × Int × (List CV)) : Out := ⟨(.tup [(.osl [0, 2000] none 0 u.1), (.v (CV.int .i64 u.2.1))]), [([0, 2000], (.row false none u.2.2))]⟩
def f8_cOf (R : f8_R) : FnC := fun X xs ns K => match xs, ns with
  | [(.v x0)], [] => R X (fun u => K (f8_out u)) x0
  | _, _ => none
def f8_plan : Nat → Option (List Nat × List Wk)
  | 0 => some ([0], [])
  | 1 => some ([1], [])
  | 2 => some ([], [])
  | 3 => some ([1], [])
  | 4 => some ([1, 4], [])
  | 5 => some ([1, 6], [])
  | 6 => some ([6], [])
  | 7 => some ([6], [])
  | _ => none
def f8_C (R_f22 : f22_R) (R_f23 : f23_R) (R_f24 : f24_R) : Fns := (orC 22 (f22_cOf R_f22) (orC 23 (f23_cOf R_f23) (orC 24 (f24_cOf R_f24) noC)))
theorem f8_Cok (R_f22 : f22_R) (R_f23 : f23_R) (R_f24 : f24_R) (hR_f22 : AnsOk Try.prog 22 (f22_cOf R_f22)) (hR_f23 : AnsOk Try.prog 23 (f23_cOf R_f23)) (hR_f24 : AnsOk Try.prog 24 (f24_cOf R_f24)) : CsOk Try.prog (f8_C R_f22 R_f23 R_f24) := (orC_ok hR_f22 (orC_ok hR_f23 (orC_ok hR_f24 noC_ok)))
def f8_cx (R_f22 : f22_R) (R_f23 : f23_R) (R_f24 : f24_R) (hR_f22 : AnsOk Try.prog 22 (f22_cOf R_f22)) (hR_f23 : AnsOk Try.prog 23 (f23_cOf R_f23)) (hR_f24 : AnsOk Try.prog 24 (f24_cOf R_f24)) : Cx := mkCx (tabOf rows) (f8_C R_f22 R_f23 R_f24) md (cmpIn cmps) f8_plan (f8_Cok R_f22 R_f23 R_f24 hR_f22 hR_f23 hR_f24)
def f8_J1 {X : Type} (R_f22 : f22_R) (R_f23 : f23_R) (R_f24 : f24_R) (k : Nat) (K : Nat × Int × (List CV) → Option X)  (v4 : Int) : Option X :=
R_f24 _ (fun u5 =>
K (u5.1, 0, (List.take (0 + u5.1) u5.2))) (v4)
def f8_T {X : Type} (R_f22 : f22_R) (R_f23 : f23_R) (R_f24 : f24_R) (k : Nat) (K : Nat × Int × (List CV) → Option X)  (x0 : CV) : Option X :=
grd (CV.isA 3 x0) <|
grd (CV.isI .i64 (CV.cellD 0 x0)) <|
grd (CV.isB (CV.cellD 1 x0)) <|
grd (CV.isI .i64 (CV.cellD 2 x0)) <|
R_f22 _ (fun u2 =>
(bif (!u2) then
K (0, 1, (List.take 0 []))
else
R_f23 _ (fun u3 =>
(bif (CV.toB (CV.cellD 1 x0)) then
f8_J1 R_f22 R_f23 R_f24 k K ((bop .or .i64 (bop .or .i64 (IntKind.wrap .i64 ((CV.toI (CV.cellD 0 x0)) * 2 ^ 4)) u3.1) 8))
else
f8_J1 R_f22 R_f23 R_f24 k K ((bop .or .i64 (IntKind.wrap .i64 ((CV.toI (CV.cellD 0 x0)) * 2 ^ 4)) u3.1)))) ((CV.toI (CV.cellD 2 x0))))) ((CV.toI (CV.cellD 0 x0))) ((CV.toI (CV.cellD 2 x0)))
/-- "outpost/block.Write" -/
def f8_A (R_f22 : f22_R) (R_f23 : f23_R) (R_f24 : f24_R) (k : Nat) : f8_R := fun X K x0 => f8_T R_f22 R_f23 R_f24 k K  x0
set_option maxRecDepth 100000 in
theorem f8_ev' {X : Type} (R_f22 : f22_R) (R_f23 : f23_R) (R_f24 : f24_R) (hR_f22 : AnsOk Try.prog 22 (f22_cOf R_f22)) (hR_f23 : AnsOk Try.prog 23 (f23_cOf R_f23)) (hR_f24 : AnsOk Try.prog 24 (f24_cOf R_f24)) (k : Nat) (K : Out → Option X) (x0 : CV) : evFn (f8_cx R_f22 R_f23 R_f24 hR_f22 hR_f23 hR_f24) [⟨0, [0], some [0, 2000]⟩] k Try.f8.ntmps Try.f8.results.toList (Try.f8.body.getD .skip) [(.v x0)] [] K = f8_T R_f22 R_f23 R_f24 k (fun u => K (f8_out u)) x0 := by kernel_rfl
theorem f8_ev {X : Type} (R_f22 : f22_R) (R_f23 : f23_R) (R_f24 : f24_R) (hR_f22 : AnsOk Try.prog 22 (f22_cOf R_f22)) (hR_f23 : AnsOk Try.prog 23 (f23_cOf R_f23)) (hR_f24 : AnsOk Try.prog 24 (f24_cOf R_f24)) (k : Nat) (K : Out → Option X) (x0 : CV) : evFn (f8_cx R_f22 R_f23 R_f24 hR_f22 hR_f23 hR_f24) [⟨0, [0], some [0, 2000]⟩] k Try.f8.ntmps Try.f8.results.toList (Try.f8.body.getD .skip) [(.v x0)] [] K = f8_A R_f22 R_f23 R_f24 k X (fun u => K (f8_out u)) x0 := (f8_ev' R_f22 R_f23 R_f24 hR_f22 hR_f23 hR_f24 k K x0).trans rfl
theorem f8_okA (R_f22 : f22_R) (R_f23 : f23_R) (R_f24 : f24_R) (hR_f22 : AnsOk Try.prog 22 (f22_cOf R_f22)) (hR_f23 : AnsOk Try.prog 23 (f23_cOf R_f23)) (hR_f24 : AnsOk Try.prog 24 (f24_cOf R_f24)) (k : Nat) : AnsOk Try.prog 8 (f8_cOf (f8_A R_f22 R_f23 R_f24 k)) := by
  intro X xs ns K x h
  unfold f8_cOf at h ⊢
  split at h
  · exact ans_main S (f8_Cok R_f22 R_f23 R_f24 hR_f22 hR_f23 hR_f24) Try.func8 (ent_of Try.func8 (by kernel_rfl) rfl) rfl (fun X K => f8_ev R_f22 R_f23 R_f24 hR_f22 hR_f23 hR_f24 k K _) h
  · cases h
/-- "outpost/block.Write" -/
def f8 {X : Type} (k : Nat) (K : Nat × Int × (List CV) → Option X) (x0 : CV) : Option X := f8_A (fun X => @f22 X k) (fun X => @f23 X k) (fun X => @f24 X k) k X K x0
theorem f8_ok (k : Nat) : AnsOk Try.prog 8 (f8_cOf (fun X => @f8 X k)) := f8_okA (fun X => @f22 X k) (fun X => @f23 X k) (fun X => @f24 X k) (f22_ok k) (f23_ok k) (f24_ok k) k
abbrev f28_R : Type 1 := (X : Type) → (Int × Bool → Option X) → (List CV) → Option X
def f28_out (u : Int × Bool) : Out := ⟨(.tup [(.v (CV.int .i64 u.1)), (.v (CV.bool u.2))]), []⟩
def f28_cOf (R : f28_R) : FnC := fun X xs ns K => match xs, ns with
  | [(.sl false none x0)], [] => R X (fun u => K (f28_out u)) x0
  | _, _ => none
def f28_plan : Nat → Option (List Nat × List Wk)
  | 0 => some ([0], [])
  | 1 => some ([0], [])
  | 2 => some ([], [])
  | 3 => some ([0], [])
  | 4 => some ([0, 4], [])
  | 5 => some ([4, 10, 11, 12], [])
  | 6 => some ([4, 10, 11, 12], [])
  | 7 => some ([4, 6, 10, 11, 12], [])
  | 8 => some ([4, 10, 11, 12], [])
  | 9 => some ([4], [])
  | _ => none
def f28_C : Fns := noC
theorem f28_Cok : CsOk Try.prog (f28_C) := noC_ok
def f28_cx : Cx := mkCx (tabOf rows) (f28_C) md (cmpIn cmps) f28_plan (f28_Cok)
def f28_S1 (v : Int × (List CV) × Int × Int) : St := ⟨[.undef, .undef, .undef, .undef, (.v (CV.int .i64 v.1)), .undef, .undef, .undef, .undef, .undef, (.sl false none v.2.1), (.v (CV.int .i64 v.2.2.1)), (.v (CV.int .i64 v.2.2.2)), .undef, .undef, .undef, .undef, .undef, .undef, .undef, .undef, .undef, .undef], []⟩
def f28_T1 {X : Type} (k : Nat) (K : Int × Bool → Option X)   (rec1 : Int × (List CV) × Int × Int → Option X) (v6_0 : Int × (List CV) × Int × Int) : Option X :=
(bif (decide (v6_0.2.2.2 < v6_0.2.2.1)) then
grd (decide (0 ≤ v6_0.2.2.2)) <|
Option.bind (v6_0.2.1)[(Int.toNat v6_0.2.2.2)]? fun e5 =>
grd (CV.isI .u8 e5) <|
rec1 ((bop .or .i64 (IntKind.wrap .i64 (v6_0.1 * 2 ^ 8)) (IntKind.wrap .i64 (CV.toI e5))), v6_0.2.1, v6_0.2.2.1, (IntKind.wrap .i64 (v6_0.2.2.2 + 1)))
else
K (v6_0.1, true))
def f28_L1 {X : Type} (k : Nat) (K : Int × Bool → Option X)  (rec1 : Int × (List CV) × Int × Int → Option X) (v : Int × (List CV) × Int × Int) : Option X := f28_T1 k K   rec1 v
set_option maxRecDepth 100000 in
theorem f28_L1_ev {X : Type} (k : Nat) (K : Out → Option X)  (r1 : St → Option X) (v : Int × (List CV) × Int × Int) : loopB (f28_cx) k [.r, .r, .r, .l, .r, .b] (Try.f28.body.getD .skip) (retK (f28_cx) [] Try.f28.results.toList K) [] r1 (f28_S1 v) = f28_T1 k (fun u => K (f28_out u))   (fun v => r1 (f28_S1 v)) v := by kernel_rfl
theorem f28_L1_it {X : Type} (k : Nat) (K : Out → Option X)  : (fun v => iter (loopB (f28_cx) k [.r, .r, .r, .l, .r, .b] (Try.f28.body.getD .skip) (retK (f28_cx) [] Try.f28.results.toList K) []) k (f28_S1 v)) = iterV (f28_L1 k (fun u => K (f28_out u)) ) k :=
  iter_map (fun r1 v => (f28_L1_ev k K  r1 v).trans rfl) k
def f28_T {X : Type} (k : Nat) (K : Int × Bool → Option X) (loop1 : Int × (List CV) × Int × Int → Option X) (x0 : List CV) : Option X :=
(bif (decide ((Nat.cast ((List.length x0)) : Int) > 7)) then
K (0, false)
else
loop1 (0, x0, (Nat.cast ((List.length x0)) : Int), 0))
/-- "outpost/opt.Number" -/
def f28_A (k : Nat) : f28_R := fun X K x0 => f28_T k K (iterV (f28_L1 k K) k) x0
set_option maxRecDepth 100000 in
theorem f28_ev' {X : Type} (k : Nat) (K : Out → Option X) (x0 : List CV) : evFn (f28_cx) [] k Try.f28.ntmps Try.f28.results.toList (Try.f28.body.getD .skip) [(.sl false none x0)] [] K = f28_T k (fun u => K (f28_out u)) (fun v => iter (loopB (f28_cx) k [.r, .r, .r, .l, .r, .b] (Try.f28.body.getD .skip) (retK (f28_cx) [] Try.f28.results.toList K) []) k (f28_S1 v)) x0 := by kernel_rfl
theorem f28_ev {X : Type} (k : Nat) (K : Out → Option X) (x0 : List CV) : evFn (f28_cx) [] k Try.f28.ntmps Try.f28.results.toList (Try.f28.body.getD .skip) [(.sl false none x0)] [] K = f28_A k X (fun u => K (f28_out u)) x0 := (f28_ev' k K x0).trans (by rw [f28_L1_it k K]; rfl)
theorem f28_okA (k : Nat) : AnsOk Try.prog 28 (f28_cOf (f28_A k)) := by
  intro X xs ns K x h
  unfold f28_cOf at h ⊢
  split at h
  · exact ans_main S (f28_Cok) Try.func28 (ent_of Try.func28 (by kernel_rfl) rfl) rfl (fun X K => f28_ev k K _) h
  · cases h
/-- "outpost/opt.Number" -/
def f28 {X : Type} (k : Nat) (K : Int × Bool → Option X) (x0 : List CV) : Option X := f28_A k X K x0
theorem f28_ok (k : Nat) : AnsOk Try.prog 28 (f28_cOf (fun X => @f28 X k)) := f28_okA k
abbrev f11_R : Type 1 := (X : Type) → (CV × Int → Option X) → (List CV) → Option X
def f11_out (u : CV × Int) : Out := ⟨(.tup [(.v u.1), (.v (CV.int .i64 u.2))]), []⟩
def f11_cOf (R : f11_R) : FnC := fun X xs ns K => match xs, ns with
  | [(.sl false none x0)], [] => R X (fun u => K (f11_out u)) x0
  | _, _ => none
def f11_plan : Nat → Option (List Nat × List Wk)
  | 0 => some ([0], [])
  | 1 => some ([0, 2], [])
  | 2 => some ([0, 2, 4], [])
  | 3 => some ([2], [])
  | 4 => some ([2, 4], [])
  | _ => none
def f11_C (R_f28 : f28_R) : Fns := (orC 28 (f28_cOf R_f28) noC)
theorem f11_Cok (R_f28 : f28_R) (hR_f28 : AnsOk Try.prog 28 (f28_cOf R_f28)) : CsOk Try.prog (f11_C R_f28) := (orC_ok hR_f28 noC_ok)
def f11_cx (R_f28 : f28_R) (hR_f28 : AnsOk Try.prog 28 (f28_cOf R_f28)) : Cx := mkCx (tabOf rows) (f11_C R_f28) md (cmpIn cmps) f11_plan (f11_Cok R_f28 hR_f28)
def f11_T {X : Type} (R_f28 : f28_R) (k : Nat) (K : CV × Int → Option X)  (x0 : List CV) : Option X :=
R_f28 _ (fun u1 =>
(bif (decide ((Nat.cast ((List.length x0)) : Int) > 3)) then
K ((CV.agg [(CV.int .i64 0), (CV.bool false), (CV.int .i64 0)]), 20)
else
(bif ((bop .and .i64 u1.1 7) == 7) then
K ((CV.agg [(CV.int .i64 0), (CV.bool false), (CV.int .i64 0)]), 20)
else
grd (decide (0 ≤ (bop .and .i64 u1.1 7))) <|
K ((CV.agg [(CV.int .i64 (Int.fdiv u1.1 (2 ^ 4))), (CV.bool ((bop .and .i64 u1.1 8) != 0)), (CV.int .i64 (IntKind.wrap .i64 (16 * 2 ^ (min (Int.toNat (bop .and .i64 u1.1 7)) 64))))]), 0)))) (x0)
/-- "outpost/block.Read" -/
def f11_A (R_f28 : f28_R) (k : Nat) : f11_R := fun X K x0 => f11_T R_f28 k K  x0
set_option maxRecDepth 100000 in
theorem f11_ev' {X : Type} (R_f28 : f28_R) (hR_f28 : AnsOk Try.prog 28 (f28_cOf R_f28)) (k : Nat) (K : Out → Option X) (x0 : List CV) : evFn (f11_cx R_f28 hR_f28) [] k Try.f11.ntmps Try.f11.results.toList (Try.f11.body.getD .skip) [(.sl false none x0)] [] K = f11_T R_f28 k (fun u => K (f11_out u)) x0 := by kernel_rfl
theorem f11_ev {X : Type} (R_f28 : f28_R) (hR_f28 : AnsOk Try.prog 28 (f28_cOf R_f28)) (k : Nat) (K : Out → Option X) (x0 : List CV) : evFn (f11_cx R_f28 hR_f28) [] k Try.f11.ntmps Try.f11.results.toList (Try.f11.body.getD .skip) [(.sl false none x0)] [] K = f11_A R_f28 k X (fun u => K (f11_out u)) x0 := (f11_ev' R_f28 hR_f28 k K x0).trans rfl
theorem f11_okA (R_f28 : f28_R) (hR_f28 : AnsOk Try.prog 28 (f28_cOf R_f28)) (k : Nat) : AnsOk Try.prog 11 (f11_cOf (f11_A R_f28 k)) := by
  intro X xs ns K x h
  unfold f11_cOf at h ⊢
  split at h
  · exact ans_main S (f11_Cok R_f28 hR_f28) Try.func11 (ent_of Try.func11 (by kernel_rfl) rfl) rfl (fun X K => f11_ev R_f28 hR_f28 k K _) h
  · cases h
/-- "outpost/block.Read" -/
def f11 {X : Type} (k : Nat) (K : CV × Int → Option X) (x0 : List CV) : Option X := f11_A (fun X => @f28 X k) k X K x0
theorem f11_ok (k : Nat) : AnsOk Try.prog 11 (f11_cOf (fun X => @f11 X k)) := f11_okA (fun X => @f28 X k) (f28_ok k) k
def f30_plan : Nat → Option (List Nat × List Wk)
  | 0 => some ([0], [])
  | 1 => some ([0], [])
  | 2 => some ([], [])
  | 3 => some ([0], [])
  | _ => none
def f30_cx : Cx := mkCx (tabOf rows) noC md (cmpIn cmps) f30_plan (noC_ok (P := Try.prog))
/-- "slices.Clone[[]byte,byte]" -/
def f30 {X : Type} (k : Nat) (K : List CV → Option X) (x0 : List CV) : Option X := grd (decide ((0 + List.length x0) * 1 ≤ 140737488355328)) (K x0)
def f30_out (u : List CV) : Out := ⟨.osl [2000] none 0 (List.length u), [([2000], .row false none u)]⟩
set_option maxRecDepth 100000 in
theorem f30_fn (x0 : List CV) (hl : (decide ((0 + List.length x0) * 1 ≤ 140737488355328)) = true) : FnOk Try.prog 30 [.sl false none x0] [] (f30_out x0) := by
  refine nilsplit (cx := f30_cx) (xs := x0) (p := false) (sh := none) (fuel := 1) (ws := [⟨0, [], some [2000]⟩]) (tabOf_tabOk S.hr) (tabOf_noOther S.hr) (CsOk.fns (noC_ok (P := Try.prog)) (cmpsAre_ok cmps_ok)) S.hm Try.func30 rfl rfl Try.underlying24 (s1 := ⟨[(.sl false none x0), .undef, (.nil0 none), .undef, .undef, .undef, .undef, .undef], []⟩) (s2 := ⟨[(.sl false none x0), .undef, .undef, .undef, .undef, .undef, .undef, .undef], []⟩) (s3 := ⟨[(.sl false none x0), .undef, .undef, (.sl false none x0), .undef, .undef, .undef, .undef], []⟩) ?_ ?_ ?_ rfl ?_ (fun h => ?_) ⟨rfl, rfl⟩
  · kernel_rfl
  · kernel_rfl
  · kernel_rfl
  · refine Eq.trans (b := grd (decide ((0 + List.length x0) * 1 ≤ 140737488355328)) (some ⟨.osl [2000] none 0 (0 + List.length x0), [([2000], .row false none (List.take (0 + (0 + List.length x0)) (List.take 0 [] ++ x0)))]⟩)) (by kernel_rfl) ?_
    rw [hl]
    simp [grd, f30_out]
  · subst h
    kernel_rfl
abbrev f30_R : Type 1 := (X : Type) → (List CV → Option X) → List CV → Option X
def f30_cOf (R : f30_R) : FnC := fun X xs ns K => match xs, ns with
  | [.sl false none x0], [] => R X (fun u => K (f30_out u)) x0
  | _, _ => none
theorem f30_ok (k : Nat) : AnsOk Try.prog 30 (f30_cOf (fun X => @f30 X k)) := by
  intro X xs ns K x h
  unfold f30_cOf at h ⊢
  split at h
  · next x0 =>
    obtain ⟨h1, h2⟩ := grd_some (show grd (decide ((0 + List.length x0) * 1 ≤ 140737488355328)) (K (f30_out x0)) = some x from h)
    exact ⟨ent_of Try.func30 (by kernel_rfl) rfl, _, f30_fn x0 h1, h2, fun Y K' => by show grd _ _ = _; rw [h1]; rfl⟩
  · cases h
abbrev f13_R : Type 1 := (X : Type) → (Nat × Bool × Bool × (List CV) → Option X) → (List CV) → Int → Int → Option X
def f13_out (u : Nat × Bool × Bool × (List CV)) : Out := ⟨(.tup [(.osl [0, 2000] none 0 u.1), (.v (CV.bool u.2.1)), (.v (CV.bool u.2.2.1))]), [([0, 2000], (.row false none u.2.2.2))]⟩
def f13_cOf (R : f13_R) : FnC := fun X xs ns K => match xs, ns with
  | [(.sl false none x0), (.v (CV.int .i64 x1)), (.v (CV.int .i64 x2))], [] => R X (fun u => K (f13_out u)) x0 x1 x2
  | _, _ => none
def f13_plan : Nat → Option (List Nat × List Wk)
  | 0 => some ([0, 1, 2], [])
  | 1 => some ([0, 1, 2], [])
  | 2 => some ([], [])
  | 3 => some ([0, 1, 2], [])
  | 4 => some ([0, 1, 2, 9], [])
  | 5 => some ([], [])
  | 6 => some ([0, 2, 9], [])
  | 7 => some ([0, 9, 10], [])
  | _ => none
def f13_C (R_f22 : f22_R) (R_f30 : f30_R) : Fns := (orC 22 (f22_cOf R_f22) (orC 30 (f30_cOf R_f30) noC))
theorem f13_Cok (R_f22 : f22_R) (R_f30 : f30_R) (hR_f22 : AnsOk Try.prog 22 (f22_cOf R_f22)) (hR_f30 : AnsOk Try.prog 30 (f30_cOf R_f30)) : CsOk Try.prog (f13_C R_f22 R_f30) := (orC_ok hR_f22 (orC_ok hR_f30 noC_ok))
def f13_cx (R_f22 : f22_R) (R_f30 : f30_R) (hR_f22 : AnsOk Try.prog 22 (f22_cOf R_f22)) (hR_f30 : AnsOk Try.prog 30 (f30_cOf R_f30)) : Cx := mkCx (tabOf rows) (f13_C R_f22 R_f30) md (cmpIn cmps) f13_plan (f13_Cok R_f22 R_f30 hR_f22 hR_f30)
def f13_J1 {X : Type} (R_f22 : f22_R) (R_f30 : f30_R) (k : Nat) (K : Nat × Bool × Bool × (List CV) → Option X) (x0 : List CV) (x1 : Int) (x2 : Int) (v3 : Unit) : Option X :=
grd (decide (0 ≤ (IntKind.wrap .i64 (x1 * x2)))) <|
grd (decide ((IntKind.wrap .i64 (x1 * x2)) ≤ (if (IntKind.wrap .i64 ((IntKind.wrap .i64 (x1 * x2)) + x2)) < (Nat.cast ((List.length x0)) : Int) then (IntKind.wrap .i64 ((IntKind.wrap .i64 (x1 * x2)) + x2)) else (Nat.cast ((List.length x0)) : Int)))) <|
grd (decide ((if (IntKind.wrap .i64 ((IntKind.wrap .i64 (x1 * x2)) + x2)) < (Nat.cast ((List.length x0)) : Int) then (IntKind.wrap .i64 ((IntKind.wrap .i64 (x1 * x2)) + x2)) else (Nat.cast ((List.length x0)) : Int)) ≤ (Nat.cast ((List.length x0)) : Int))) <|
R_f30 _ (fun u4 =>
K ((List.length u4), (decide ((if (IntKind.wrap .i64 ((IntKind.wrap .i64 (x1 * x2)) + x2)) < (Nat.cast ((List.length x0)) : Int) then (IntKind.wrap .i64 ((IntKind.wrap .i64 (x1 * x2)) + x2)) else (Nat.cast ((List.length x0)) : Int)) < (Nat.cast ((List.length x0)) : Int))), true, (List.take (0 + (List.length u4)) u4))) ((List.take ((Int.toNat (if (IntKind.wrap .i64 ((IntKind.wrap .i64 (x1 * x2)) + x2)) < (Nat.cast ((List.length x0)) : Int) then (IntKind.wrap .i64 ((IntKind.wrap .i64 (x1 * x2)) + x2)) else (Nat.cast ((List.length x0)) : Int))) - (Int.toNat (IntKind.wrap .i64 (x1 * x2)))) (List.drop (Int.toNat (IntKind.wrap .i64 (x1 * x2))) x0)))
def f13_T {X : Type} (R_f22 : f22_R) (R_f30 : f30_R) (k : Nat) (K : Nat × Bool × Bool × (List CV) → Option X)  (x0 : List CV) (x1 : Int) (x2 : Int) : Option X :=
R_f22 _ (fun u2 =>
(bif (!u2) then
K (0, false, false, (List.take 0 []))
else
(bif (decide ((IntKind.wrap .i64 (x1 * x2)) ≥ (Nat.cast ((List.length x0)) : Int))) then
(bif (decide (x1 > 0)) then
K (0, false, false, (List.take 0 []))
else
f13_J1 R_f22 R_f30 k K x0 x1 x2 (()))
else
f13_J1 R_f22 R_f30 k K x0 x1 x2 (())))) (x1) (x2)
/-- "outpost/block.Cut" -/
def f13_A (R_f22 : f22_R) (R_f30 : f30_R) (k : Nat) : f13_R := fun X K x0 x1 x2 => f13_T R_f22 R_f30 k K  x0 x1 x2
set_option maxRecDepth 100000 in
theorem f13_ev' {X : Type} (R_f22 : f22_R) (R_f30 : f30_R) (hR_f22 : AnsOk Try.prog 22 (f22_cOf R_f22)) (hR_f30 : AnsOk Try.prog 30 (f30_cOf R_f30)) (k : Nat) (K : Out → Option X) (x0 : List CV) (x1 : Int) (x2 : Int) : evFn (f13_cx R_f22 R_f30 hR_f22 hR_f30) [⟨0, [0], some [0, 2000]⟩] k Try.f13.ntmps Try.f13.results.toList (Try.f13.body.getD .skip) [(.sl false none x0), (.v (CV.int .i64 x1)), (.v (CV.int .i64 x2))] [] K = f13_T R_f22 R_f30 k (fun u => K (f13_out u)) x0 x1 x2 := by kernel_rfl
theorem f13_ev {X : Type} (R_f22 : f22_R) (R_f30 : f30_R) (hR_f22 : AnsOk Try.prog 22 (f22_cOf R_f22)) (hR_f30 : AnsOk Try.prog 30 (f30_cOf R_f30)) (k : Nat) (K : Out → Option X) (x0 : List CV) (x1 : Int) (x2 : Int) : evFn (f13_cx R_f22 R_f30 hR_f22 hR_f30) [⟨0, [0], some [0, 2000]⟩] k Try.f13.ntmps Try.f13.results.toList (Try.f13.body.getD .skip) [(.sl false none x0), (.v (CV.int .i64 x1)), (.v (CV.int .i64 x2))] [] K = f13_A R_f22 R_f30 k X (fun u => K (f13_out u)) x0 x1 x2 := (f13_ev' R_f22 R_f30 hR_f22 hR_f30 k K x0 x1 x2).trans rfl
theorem f13_okA (R_f22 : f22_R) (R_f30 : f30_R) (hR_f22 : AnsOk Try.prog 22 (f22_cOf R_f22)) (hR_f30 : AnsOk Try.prog 30 (f30_cOf R_f30)) (k : Nat) : AnsOk Try.prog 13 (f13_cOf (f13_A R_f22 R_f30 k)) := by
  intro X xs ns K x h
  unfold f13_cOf at h ⊢
  split at h
  · exact ans_main S (f13_Cok R_f22 R_f30 hR_f22 hR_f30) Try.func13 (ent_of Try.func13 (by kernel_rfl) rfl) rfl (fun X K => f13_ev R_f22 R_f30 hR_f22 hR_f30 k K _ _ _) h
  · cases h
/-- "outpost/block.Cut" -/
def f13 {X : Type} (k : Nat) (K : Nat × Bool × Bool × (List CV) → Option X) (x0 : List CV) (x1 : Int) (x2 : Int) : Option X := f13_A (fun X => @f22 X k) (fun X => @f30 X k) k X K x0 x1 x2
theorem f13_ok (k : Nat) : AnsOk Try.prog 13 (f13_cOf (fun X => @f13 X k)) := f13_okA (fun X => @f22 X k) (fun X => @f30 X k) (f22_ok k) (f30_ok k) k
abbrev f16_R : Type 1 := (X : Type) → (Int × (List CV) → Option X) → Int → Option X
def f16_out (u : Int × (List CV)) : Out := ⟨(.ptr [2000] 0 0 0), [([2000], (.obj [(.v (CV.int .i64 u.1)), (.osl [1, 2000] none 0 0), (.v (CV.bool false))])), ([1, 2000], (.row false none u.2))]⟩
def f16_cOf (R : f16_R) : FnC := fun X xs ns K => match xs, ns with
  | [(.v (CV.int .i64 x0))], [] => R X (fun u => K (f16_out u)) x0
  | _, _ => none
def f16_plan : Nat → Option (List Nat × List Wk)
  | 0 => some ([0], [])
  | 1 => some ([0], [])
  | _ => none
def f16_C : Fns := noC
theorem f16_Cok : CsOk Try.prog (f16_C) := noC_ok
def f16_cx : Cx := mkCx (tabOf rows) (f16_C) md (cmpIn cmps) f16_plan (f16_Cok)
def f16_T {X : Type} (k : Nat) (K : Int × (List CV) → Option X)  (x0 : Int) : Option X :=
K ((if 1048576 < (if 0 > x0 then 0 else x0) then 1048576 else (if 0 > x0 then 0 else x0)), (List.take 0 []))
/-- "outpost/block.NewJoin" -/
def f16_A (k : Nat) : f16_R := fun X K x0 => f16_T k K  x0
set_option maxRecDepth 100000 in
theorem f16_ev' {X : Type} (k : Nat) (K : Out → Option X) (x0 : Int) : evFn (f16_cx) [] k Try.f16.ntmps Try.f16.results.toList (Try.f16.body.getD .skip) [(.v (CV.int .i64 x0))] [] K = f16_T k (fun u => K (f16_out u)) x0 := by kernel_rfl
theorem f16_ev {X : Type} (k : Nat) (K : Out → Option X) (x0 : Int) : evFn (f16_cx) [] k Try.f16.ntmps Try.f16.results.toList (Try.f16.body.getD .skip) [(.v (CV.int .i64 x0))] [] K = f16_A k X (fun u => K (f16_out u)) x0 := (f16_ev' k K x0).trans rfl
theorem f16_okA (k : Nat) : AnsOk Try.prog 16 (f16_cOf (f16_A k)) := by
  intro X xs ns K x h
  unfold f16_cOf at h ⊢
  split at h
  · exact ans_main S (f16_Cok) Try.func16 (ent_of Try.func16 (by kernel_rfl) rfl) rfl (fun X K => f16_ev k K _) h
  · cases h
/-- "outpost/block.NewJoin" -/
def f16 {X : Type} (k : Nat) (K : Int × (List CV) → Option X) (x0 : Int) : Option X := f16_A k X K x0
theorem f16_ok (k : Nat) : AnsOk Try.prog 16 (f16_cOf (fun X => @f16 X k)) := f16_okA k
abbrev f31_R : Type 1 := (X : Type) → (Int × Int × Nat × Bool × (List CV) → Option X) → CV → (List CV) → Int → Nat → Bool → (List CV) → Option X
def f31_out (u : Int × Int × Nat × Bool × (List CV)) : Out := ⟨(.v (CV.int .i64 u.1)), [([1000], (.obj [(.v (CV.int .i64 u.2.1)), (.osl [1, 1000] none 0 u.2.2.1), (.v (CV.bool u.2.2.2.1))])), ([1, 1000], (.row false none u.2.2.2.2))]⟩
def f31_cOf (R : f31_R) : FnC := fun X xs ns K => match xs, ns with
  | [(.ptr [1000] 0 0 0), (.v x0), (.sl false none x1)], [([1000], (.obj [(.v (CV.int .i64 x2)), (.osl [1, 1000] none 0 x3), (.v (CV.bool x4))])), ([1, 1000], (.row false none x5))] => R X (fun u => K (f31_out u)) x0 x1 x2 x3 x4 x5
  | _, _ => none
def f31_plan : Nat → Option (List Nat × List Wk)
  | 0 => some ([0, 1, 2], [])
  | 1 => some ([0, 2, 4], [])
  | 2 => some ([], [])
  | 3 => some ([0, 2, 4], [])
  | 4 => some ([], [])
  | 5 => some ([0, 2, 4], [])
  | 6 => some ([0, 2, 4], [])
  | 7 => some ([], [])
  | 8 => some ([0, 2], [])
  | 9 => some ([], [])
  | 10 => some ([], [])
  | _ => none
def f31_C (R_f22 : f22_R) : Fns := (orC 22 (f22_cOf R_f22) noC)
theorem f31_Cok (R_f22 : f22_R) (hR_f22 : AnsOk Try.prog 22 (f22_cOf R_f22)) : CsOk Try.prog (f31_C R_f22) := (orC_ok hR_f22 noC_ok)
def f31_cx (R_f22 : f22_R) (hR_f22 : AnsOk Try.prog 22 (f22_cOf R_f22)) : Cx := mkCx (tabOf rows) (f31_C R_f22) md (cmpIn cmps) f31_plan (f31_Cok R_f22 hR_f22)
def f31_J1 {X : Type} (R_f22 : f22_R) (k : Nat) (K : Int × Int × Nat × Bool × (List CV) → Option X) (x1 : List CV) (x2 : Int) (v3 : Bool × Nat × Bool × (List CV)) : Option X :=
(bif v3.1 then
K (20, x2, v3.2.1, v3.2.2.1, (List.take (0 + v3.2.1) v3.2.2.2))
else
(bif (decide ((Nat.cast ((List.length x1)) : Int) > (IntKind.wrap .i64 (x2 - (Nat.cast (v3.2.1) : Int))))) then
K (2, x2, v3.2.1, v3.2.2.1, (List.take (0 + v3.2.1) v3.2.2.2))
else
K (0, x2, v3.2.1, v3.2.2.1, (List.take (0 + v3.2.1) v3.2.2.2))))
def f31_T {X : Type} (R_f22 : f22_R) (k : Nat) (K : Int × Int × Nat × Bool × (List CV) → Option X)  (x0 : CV) (x1 : List CV) (x2 : Int) (x3 : Nat) (x4 : Bool) (x5 : List CV) : Option X :=
grd (CV.isA 3 x0) <|
grd (CV.isI .i64 (CV.cellD 0 x0)) <|
grd (CV.isB (CV.cellD 1 x0)) <|
grd (CV.isI .i64 (CV.cellD 2 x0)) <|
R_f22 _ (fun u2 =>
(bif (!u2) then
K (1, x2, x3, x4, (List.take (0 + x3) x5))
else
(bif (!x4) then
K (4, x2, x3, x4, (List.take (0 + x3) x5))
else
(bif ((IntKind.wrap .i64 ((CV.toI (CV.cellD 0 x0)) * (CV.toI (CV.cellD 2 x0)))) != (Nat.cast (x3) : Int)) then
K (4, x2, x3, x4, (List.take (0 + x3) x5))
else
(bif (CV.toB (CV.cellD 1 x0)) then
(bif ((Nat.cast ((List.length x1)) : Int) != (CV.toI (CV.cellD 2 x0))) then
f31_J1 R_f22 k K x1 x2 (((Nat.cast ((List.length x1)) : Int) != (CV.toI (CV.cellD 2 x0))), x3, x4, x5)
else
f31_J1 R_f22 k K x1 x2 ((decide ((Nat.cast ((List.length x1)) : Int) > (CV.toI (CV.cellD 2 x0)))), x3, x4, x5))
else
f31_J1 R_f22 k K x1 x2 ((decide ((Nat.cast ((List.length x1)) : Int) > (CV.toI (CV.cellD 2 x0)))), x3, x4, x5)))))) ((CV.toI (CV.cellD 0 x0))) ((CV.toI (CV.cellD 2 x0)))
/-- "(*outpost/block.Join).fault" -/
def f31_A (R_f22 : f22_R) (k : Nat) : f31_R := fun X K x0 x1 x2 x3 x4 x5 => f31_T R_f22 k K  x0 x1 x2 x3 x4 x5
set_option maxRecDepth 100000 in
theorem f31_ev' {X : Type} (R_f22 : f22_R) (hR_f22 : AnsOk Try.prog 22 (f22_cOf R_f22)) (k : Nat) (K : Out → Option X) (x0 : CV) (x1 : List CV) (x2 : Int) (x3 : Nat) (x4 : Bool) (x5 : List CV) : evFn (f31_cx R_f22 hR_f22) [] k Try.f31.ntmps Try.f31.results.toList (Try.f31.body.getD .skip) [(.ptr [1000] 0 0 0), (.v x0), (.sl false none x1)] [([1000], (.obj [(.v (CV.int .i64 x2)), (.osl [1, 1000] none 0 x3), (.v (CV.bool x4))])), ([1, 1000], (.row false none x5))] K = f31_T R_f22 k (fun u => K (f31_out u)) x0 x1 x2 x3 x4 x5 := by kernel_rfl
theorem f31_ev {X : Type} (R_f22 : f22_R) (hR_f22 : AnsOk Try.prog 22 (f22_cOf R_f22)) (k : Nat) (K : Out → Option X) (x0 : CV) (x1 : List CV) (x2 : Int) (x3 : Nat) (x4 : Bool) (x5 : List CV) : evFn (f31_cx R_f22 hR_f22) [] k Try.f31.ntmps Try.f31.results.toList (Try.f31.body.getD .skip) [(.ptr [1000] 0 0 0), (.v x0), (.sl false none x1)] [([1000], (.obj [(.v (CV.int .i64 x2)), (.osl [1, 1000] none 0 x3), (.v (CV.bool x4))])), ([1, 1000], (.row false none x5))] K = f31_A R_f22 k X (fun u => K (f31_out u)) x0 x1 x2 x3 x4 x5 := (f31_ev' R_f22 hR_f22 k K x0 x1 x2 x3 x4 x5).trans rfl
theorem f31_okA (R_f22 : f22_R) (hR_f22 : AnsOk Try.prog 22 (f22_cOf R_f22)) (k : Nat) : AnsOk Try.prog 31 (f31_cOf (f31_A R_f22 k)) := by
  intro X xs ns K x h
  unfold f31_cOf at h ⊢
  split at h
  · exact ans_main S (f31_Cok R_f22 hR_f22) Try.func31 (ent_of Try.func31 (by kernel_rfl) rfl) rfl (fun X K => f31_ev R_f22 hR_f22 k K _ _ _ _ _ _) h
  · cases h
/-- "(*outpost/block.Join).fault" -/
def f31 {X : Type} (k : Nat) (K : Int × Int × Nat × Bool × (List CV) → Option X) (x0 : CV) (x1 : List CV) (x2 : Int) (x3 : Nat) (x4 : Bool) (x5 : List CV) : Option X := f31_A (fun X => @f22 X k) k X K x0 x1 x2 x3 x4 x5
theorem f31_ok (k : Nat) : AnsOk Try.prog 31 (f31_cOf (fun X => @f31 X k)) := f31_okA (fun X => @f22 X k) (f22_ok k) k
abbrev f18_R : Type 1 := (X : Type) → (Bool × Int × Int × Nat × Bool × (List CV) → Option X) → CV → (List CV) → Int → Nat → Bool → (List CV) → Option X
def f18_out (u : Bool × Int × Int × Nat × Bool × (List CV)) : Out := ⟨(.tup [(.v (CV.bool u.1)), (.v (CV.int .i64 u.2.1))]), [([1000], (.obj [(.v (CV.int .i64 u.2.2.1)), (.osl [1, 1000] none 0 u.2.2.2.1), (.v (CV.bool u.2.2.2.2.1))])), ([1, 1000], (.row false none u.2.2.2.2.2))]⟩
def f18_cOf (R : f18_R) : FnC := fun X xs ns K => match xs, ns with
  | [(.ptr [1000] 0 0 0), (.v x0), (.sl false none x1)], [([1000], (.obj [(.v (CV.int .i64 x2)), (.osl [1, 1000] none 0 x3), (.v (CV.bool x4))])), ([1, 1000], (.row false none x5))] => R X (fun u => K (f18_out u)) x0 x1 x2 x3 x4 x5
  | _, _ => none
def f18_plan : Nat → Option (List Nat × List Wk)
  | 0 => some ([0, 1, 2], [])
  | 1 => some ([0, 2, 4], [])
  | 2 => some ([0, 2, 4], [])
  | 3 => some ([0, 2, 4], [])
  | 4 => some ([0, 2, 4, 8], [])
  | 5 => some ([0, 8], [])
  | 6 => some ([8], [])
  | 7 => some ([0, 2, 4], [])
  | 8 => some ([0, 4], [])
  | 9 => some ([4], [])
  | _ => none
def f18_C (R_f31 : f31_R) : Fns := (orC 31 (f31_cOf R_f31) noC)
theorem f18_Cok (R_f31 : f31_R) (hR_f31 : AnsOk Try.prog 31 (f31_cOf R_f31)) : CsOk Try.prog (f18_C R_f31) := (orC_ok hR_f31 noC_ok)
def f18_cx (R_f31 : f31_R) (hR_f31 : AnsOk Try.prog 31 (f31_cOf R_f31)) : Cx := mkCx (tabOf rows) (f18_C R_f31) md (cmpIn cmps) f18_plan (f18_Cok R_f31 hR_f31)
def f18_J1 {X : Type} (R_f31 : f31_R) (k : Nat) (K : Bool × Int × Int × Nat × Bool × (List CV) → Option X) (x0 : CV) (v1 : (List CV) × Int × Nat × Bool × (List CV)) : Option X :=
R_f31 _ (fun u3 =>
(bif (u3.1 != 0) then
K (false, u3.1, u3.2.1, 0, false, (List.take 0 []))
else
grd (decide ((u3.2.2.1 + (List.length v1.1)) * 1 ≤ 140737488355328)) <|
K ((!(CV.toB (CV.cellD 1 x0))), 0, u3.2.1, (u3.2.2.1 + (List.length v1.1)), (CV.toB (CV.cellD 1 x0)), (List.take (0 + (u3.2.2.1 + (List.length v1.1))) ((List.take u3.2.2.1 u3.2.2.2.2) ++ v1.1))))) ((CV.agg [(CV.int .i64 (CV.toI (CV.cellD 0 x0))), (CV.bool (CV.toB (CV.cellD 1 x0))), (CV.int .i64 (CV.toI (CV.cellD 2 x0)))])) (v1.1) (v1.2.1) (v1.2.2.1) (v1.2.2.2.1) (v1.2.2.2.2)
def f18_T {X : Type} (R_f31 : f31_R) (k : Nat) (K : Bool × Int × Int × Nat × Bool × (List CV) → Option X)  (x0 : CV) (x1 : List CV) (x2 : Int) (x3 : Nat) (x4 : Bool) (x5 : List CV) : Option X :=
grd (CV.isA 3 x0) <|
grd (CV.isI .i64 (CV.cellD 0 x0)) <|
grd (CV.isB (CV.cellD 1 x0)) <|
grd (CV.isI .i64 (CV.cellD 2 x0)) <|
(bif ((CV.toI (CV.cellD 0 x0)) == 0) then
f18_J1 R_f31 k K x0 (x1, x2, 0, true, [])
else
f18_J1 R_f31 k K x0 (x1, x2, x3, x4, x5))
/-- "(*outpost/block.Join).Put" -/
def f18_A (R_f31 : f31_R) (k : Nat) : f18_R := fun X K x0 x1 x2 x3 x4 x5 => f18_T R_f31 k K  x0 x1 x2 x3 x4 x5
set_option maxRecDepth 100000 in
theorem f18_ev' {X : Type} (R_f31 : f31_R) (hR_f31 : AnsOk Try.prog 31 (f31_cOf R_f31)) (k : Nat) (K : Out → Option X) (x0 : CV) (x1 : List CV) (x2 : Int) (x3 : Nat) (x4 : Bool) (x5 : List CV) : evFn (f18_cx R_f31 hR_f31) [] k Try.f18.ntmps Try.f18.results.toList (Try.f18.body.getD .skip) [(.ptr [1000] 0 0 0), (.v x0), (.sl false none x1)] [([1000], (.obj [(.v (CV.int .i64 x2)), (.osl [1, 1000] none 0 x3), (.v (CV.bool x4))])), ([1, 1000], (.row false none x5))] K = f18_T R_f31 k (fun u => K (f18_out u)) x0 x1 x2 x3 x4 x5 := by kernel_rfl
theorem f18_ev {X : Type} (R_f31 : f31_R) (hR_f31 : AnsOk Try.prog 31 (f31_cOf R_f31)) (k : Nat) (K : Out → Option X) (x0 : CV) (x1 : List CV) (x2 : Int) (x3 : Nat) (x4 : Bool) (x5 : List CV) : evFn (f18_cx R_f31 hR_f31) [] k Try.f18.ntmps Try.f18.results.toList (Try.f18.body.getD .skip) [(.ptr [1000] 0 0 0), (.v x0), (.sl false none x1)] [([1000], (.obj [(.v (CV.int .i64 x2)), (.osl [1, 1000] none 0 x3), (.v (CV.bool x4))])), ([1, 1000], (.row false none x5))] K = f18_A R_f31 k X (fun u => K (f18_out u)) x0 x1 x2 x3 x4 x5 := (f18_ev' R_f31 hR_f31 k K x0 x1 x2 x3 x4 x5).trans rfl
theorem f18_okA (R_f31 : f31_R) (hR_f31 : AnsOk Try.prog 31 (f31_cOf R_f31)) (k : Nat) : AnsOk Try.prog 18 (f18_cOf (f18_A R_f31 k)) := by
  intro X xs ns K x h
  unfold f18_cOf at h ⊢
  split at h
  · exact ans_main S (f18_Cok R_f31 hR_f31) Try.func18 (ent_of Try.func18 (by kernel_rfl) rfl) rfl (fun X K => f18_ev R_f31 hR_f31 k K _ _ _ _ _ _) h
  · cases h
/-- "(*outpost/block.Join).Put" -/
def f18 {X : Type} (k : Nat) (K : Bool × Int × Int × Nat × Bool × (List CV) → Option X) (x0 : CV) (x1 : List CV) (x2 : Int) (x3 : Nat) (x4 : Bool) (x5 : List CV) : Option X := f18_A (fun X => @f31 X k) k X K x0 x1 x2 x3 x4 x5
theorem f18_ok (k : Nat) : AnsOk Try.prog 18 (f18_cOf (fun X => @f18 X k)) := f18_okA (fun X => @f31 X k) (f31_ok k) k
abbrev f20_R : Type 1 := (X : Type) → (Int × Int × Nat × Bool × (List CV) → Option X) → Int → Nat → Bool → (List CV) → Option X
def f20_out (u : Int × Int × Nat × Bool × (List CV)) : Out := ⟨(.v (CV.int .i64 u.1)), [([1000], (.obj [(.v (CV.int .i64 u.2.1)), (.osl [1, 1000] none 0 u.2.2.1), (.v (CV.bool u.2.2.2.1))])), ([1, 1000], (.row false none u.2.2.2.2))]⟩
def f20_cOf (R : f20_R) : FnC := fun X xs ns K => match xs, ns with
  | [(.ptr [1000] 0 0 0)], [([1000], (.obj [(.v (CV.int .i64 x0)), (.osl [1, 1000] none 0 x1), (.v (CV.bool x2))])), ([1, 1000], (.row false none x3))] => R X (fun u => K (f20_out u)) x0 x1 x2 x3
  | _, _ => none
def f20_plan : Nat → Option (List Nat × List Wk)
  | 0 => some ([0], [])
  | 1 => some ([0], [])
  | _ => none
def f20_C : Fns := noC
theorem f20_Cok : CsOk Try.prog (f20_C) := noC_ok
def f20_cx : Cx := mkCx (tabOf rows) (f20_C) md (cmpIn cmps) f20_plan (f20_Cok)
def f20_T {X : Type} (k : Nat) (K : Int × Int × Nat × Bool × (List CV) → Option X)  (x0 : Int) (x1 : Nat) (x2 : Bool) (x3 : List CV) : Option X :=
K ((Nat.cast (x1) : Int), x0, x1, x2, (List.take (0 + x1) x3))
/-- "(*outpost/block.Join).Got" -/
def f20_A (k : Nat) : f20_R := fun X K x0 x1 x2 x3 => f20_T k K  x0 x1 x2 x3
set_option maxRecDepth 100000 in
theorem f20_ev' {X : Type} (k : Nat) (K : Out → Option X) (x0 : Int) (x1 : Nat) (x2 : Bool) (x3 : List CV) : evFn (f20_cx) [] k Try.f20.ntmps Try.f20.results.toList (Try.f20.body.getD .skip) [(.ptr [1000] 0 0 0)] [([1000], (.obj [(.v (CV.int .i64 x0)), (.osl [1, 1000] none 0 x1), (.v (CV.bool x2))])), ([1, 1000], (.row false none x3))] K = f20_T k (fun u => K (f20_out u)) x0 x1 x2 x3 := by kernel_rfl
theorem f20_ev {X : Type} (k : Nat) (K : Out → Option X) (x0 : Int) (x1 : Nat) (x2 : Bool) (x3 : List CV) : evFn (f20_cx) [] k Try.f20.ntmps Try.f20.results.toList (Try.f20.body.getD .skip) [(.ptr [1000] 0 0 0)] [([1000], (.obj [(.v (CV.int .i64 x0)), (.osl [1, 1000] none 0 x1), (.v (CV.bool x2))])), ([1, 1000], (.row false none x3))] K = f20_A k X (fun u => K (f20_out u)) x0 x1 x2 x3 := (f20_ev' k K x0 x1 x2 x3).trans rfl
theorem f20_okA (k : Nat) : AnsOk Try.prog 20 (f20_cOf (f20_A k)) := by
  intro X xs ns K x h
  unfold f20_cOf at h ⊢
  split at h
  · exact ans_main S (f20_Cok) Try.func20 (ent_of Try.func20 (by kernel_rfl) rfl) rfl (fun X K => f20_ev k K _ _ _ _) h
  · cases h
/-- "(*outpost/block.Join).Got" -/
def f20 {X : Type} (k : Nat) (K : Int × Int × Nat × Bool × (List CV) → Option X) (x0 : Int) (x1 : Nat) (x2 : Bool) (x3 : List CV) : Option X := f20_A k X K x0 x1 x2 x3
theorem f20_ok (k : Nat) : AnsOk Try.prog 20 (f20_cOf (fun X => @f20 X k)) := f20_okA k
abbrev f21_R : Type 1 := (X : Type) → (Nat × Int × Nat × Bool × (List CV) × (List CV) → Option X) → Int → Nat → Bool → (List CV) → Option X
def f21_out (u : Nat × Int × Nat × Bool × (List CV) × (List CV)) : Out := ⟨(.osl [2000] none 0 u.1), [([1000], (.obj [(.v (CV.int .i64 u.2.1)), (.osl [1, 1000] none 0 u.2.2.1), (.v (CV.bool u.2.2.2.1))])), ([1, 1000], (.row false none u.2.2.2.2.1)), ([2000], (.row false none u.2.2.2.2.2))]⟩
def f21_cOf (R : f21_R) : FnC := fun X xs ns K => match xs, ns with
  | [(.ptr [1000] 0 0 0)], [([1000], (.obj [(.v (CV.int .i64 x0)), (.osl [1, 1000] none 0 x1), (.v (CV.bool x2))])), ([1, 1000], (.row false none x3))] => R X (fun u => K (f21_out u)) x0 x1 x2 x3
  | _, _ => none
def f21_plan : Nat → Option (List Nat × List Wk)
  | 0 => some ([0], [])
  | 1 => some ([0], [])
  | _ => none
def f21_C (R_f30 : f30_R) : Fns := (orC 30 (f30_cOf R_f30) noC)
theorem f21_Cok (R_f30 : f30_R) (hR_f30 : AnsOk Try.prog 30 (f30_cOf R_f30)) : CsOk Try.prog (f21_C R_f30) := (orC_ok hR_f30 noC_ok)
def f21_cx (R_f30 : f30_R) (hR_f30 : AnsOk Try.prog 30 (f30_cOf R_f30)) : Cx := mkCx (tabOf rows) (f21_C R_f30) md (cmpIn cmps) f21_plan (f21_Cok R_f30 hR_f30)
def f21_T {X : Type} (R_f30 : f30_R) (k : Nat) (K : Nat × Int × Nat × Bool × (List CV) × (List CV) → Option X)  (x0 : Int) (x1 : Nat) (x2 : Bool) (x3 : List CV) : Option X :=
R_f30 _ (fun u1 =>
K ((List.length u1), x0, x1, x2, (List.take (0 + x1) x3), (List.take (0 + (List.length u1)) u1))) ((List.take x1 (List.drop 0 x3)))
/-- "(*outpost/block.Join).Bytes" -/
def f21_A (R_f30 : f30_R) (k : Nat) : f21_R := fun X K x0 x1 x2 x3 => f21_T R_f30 k K  x0 x1 x2 x3
set_option maxRecDepth 100000 in
theorem f21_ev' {X : Type} (R_f30 : f30_R) (hR_f30 : AnsOk Try.prog 30 (f30_cOf R_f30)) (k : Nat) (K : Out → Option X) (x0 : Int) (x1 : Nat) (x2 : Bool) (x3 : List CV) : evFn (f21_cx R_f30 hR_f30) [] k Try.f21.ntmps Try.f21.results.toList (Try.f21.body.getD .skip) [(.ptr [1000] 0 0 0)] [([1000], (.obj [(.v (CV.int .i64 x0)), (.osl [1, 1000] none 0 x1), (.v (CV.bool x2))])), ([1, 1000], (.row false none x3))] K = f21_T R_f30 k (fun u => K (f21_out u)) x0 x1 x2 x3 := by kernel_rfl
theorem f21_ev {X : Type} (R_f30 : f30_R) (hR_f30 : AnsOk Try.prog 30 (f30_cOf R_f30)) (k : Nat) (K : Out → Option X) (x0 : Int) (x1 : Nat) (x2 : Bool) (x3 : List CV) : evFn (f21_cx R_f30 hR_f30) [] k Try.f21.ntmps Try.f21.results.toList (Try.f21.body.getD .skip) [(.ptr [1000] 0 0 0)] [([1000], (.obj [(.v (CV.int .i64 x0)), (.osl [1, 1000] none 0 x1), (.v (CV.bool x2))])), ([1, 1000], (.row false none x3))] K = f21_A R_f30 k X (fun u => K (f21_out u)) x0 x1 x2 x3 := (f21_ev' R_f30 hR_f30 k K x0 x1 x2 x3).trans rfl
theorem f21_okA (R_f30 : f30_R) (hR_f30 : AnsOk Try.prog 30 (f30_cOf R_f30)) (k : Nat) : AnsOk Try.prog 21 (f21_cOf (f21_A R_f30 k)) := by
  intro X xs ns K x h
  unfold f21_cOf at h ⊢
  split at h
  · exact ans_main S (f21_Cok R_f30 hR_f30) Try.func21 (ent_of Try.func21 (by kernel_rfl) rfl) rfl (fun X K => f21_ev R_f30 hR_f30 k K _ _ _ _) h
  · cases h
/-- "(*outpost/block.Join).Bytes" -/
def f21 {X : Type} (k : Nat) (K : Nat × Int × Nat × Bool × (List CV) × (List CV) → Option X) (x0 : Int) (x1 : Nat) (x2 : Bool) (x3 : List CV) : Option X := f21_A (fun X => @f30 X k) k X K x0 x1 x2 x3
theorem f21_ok (k : Nat) : AnsOk Try.prog 21 (f21_cOf (fun X => @f21 X k)) := f21_okA (fun X => @f30 X k) (f30_ok k) k
abbrev f7_R : Type 1 := (X : Type) → (Bool → Option X) → Option X
def f7_out (u : Bool) : Out := ⟨(.v (CV.bool u)), []⟩
def f7_cOf (R : f7_R) : FnC := fun X xs ns K => match xs, ns with
  | [], [] => R X (fun u => K (f7_out u)) 
  | _, _ => none
def f7_plan : Nat → Option (List Nat × List Wk)
  | 0 => some ([], [])
  | 1 => some ([], [])
  | 2 => some ([1, 2], [])
  | 3 => some ([1, 2, 3, 4], [])
  | 4 => some ([1, 2, 3, 4, 5, 6], [])
  | 5 => some ([1, 2, 3, 4, 5, 6, 8], [])
  | 6 => some ([1, 2, 3, 4, 5, 6, 8, 9, 10, 11], [])
  | 7 => some ([1, 2, 3, 4, 5, 6, 8, 9, 10, 11, 12], [])
  | 8 => some ([1, 2, 3, 4, 5, 6, 8, 9, 10, 11, 12, 13, 14], [])
  | 9 => some ([1, 2, 3, 4, 5, 6, 8, 9, 10, 11, 12, 13, 14, 15, 16], [])
  | _ => none
def f7_C (R_f8 : f8_R) (R_f11 : f11_R) (R_f13 : f13_R) (R_f16 : f16_R) (R_f18 : f18_R) (R_f20 : f20_R) (R_f21 : f21_R) : Fns := (orC 8 (f8_cOf R_f8) (orC 11 (f11_cOf R_f11) (orC 13 (f13_cOf R_f13) (orC 16 (f16_cOf R_f16) (orC 18 (f18_cOf R_f18) (orC 20 (f20_cOf R_f20) (orC 21 (f21_cOf R_f21) noC)))))))
theorem f7_Cok (R_f8 : f8_R) (R_f11 : f11_R) (R_f13 : f13_R) (R_f16 : f16_R) (R_f18 : f18_R) (R_f20 : f20_R) (R_f21 : f21_R) (hR_f8 : AnsOk Try.prog 8 (f8_cOf R_f8)) (hR_f11 : AnsOk Try.prog 11 (f11_cOf R_f11)) (hR_f13 : AnsOk Try.prog 13 (f13_cOf R_f13)) (hR_f16 : AnsOk Try.prog 16 (f16_cOf R_f16)) (hR_f18 : AnsOk Try.prog 18 (f18_cOf R_f18)) (hR_f20 : AnsOk Try.prog 20 (f20_cOf R_f20)) (hR_f21 : AnsOk Try.prog 21 (f21_cOf R_f21)) : CsOk Try.prog (f7_C R_f8 R_f11 R_f13 R_f16 R_f18 R_f20 R_f21) := (orC_ok hR_f8 (orC_ok hR_f11 (orC_ok hR_f13 (orC_ok hR_f16 (orC_ok hR_f18 (orC_ok hR_f20 (orC_ok hR_f21 noC_ok)))))))
def f7_cx (R_f8 : f8_R) (R_f11 : f11_R) (R_f13 : f13_R) (R_f16 : f16_R) (R_f18 : f18_R) (R_f20 : f20_R) (R_f21 : f21_R) (hR_f8 : AnsOk Try.prog 8 (f8_cOf R_f8)) (hR_f11 : AnsOk Try.prog 11 (f11_cOf R_f11)) (hR_f13 : AnsOk Try.prog 13 (f13_cOf R_f13)) (hR_f16 : AnsOk Try.prog 16 (f16_cOf R_f16)) (hR_f18 : AnsOk Try.prog 18 (f18_cOf R_f18)) (hR_f20 : AnsOk Try.prog 20 (f20_cOf R_f20)) (hR_f21 : AnsOk Try.prog 21 (f21_cOf R_f21)) : Cx := mkCx (tabOf rows) (f7_C R_f8 R_f11 R_f13 R_f16 R_f18 R_f20 R_f21) md (cmpIn cmps) f7_plan (f7_Cok R_f8 R_f11 R_f13 R_f16 R_f18 R_f20 R_f21 hR_f8 hR_f11 hR_f13 hR_f16 hR_f18 hR_f20 hR_f21)
def f7_T {X : Type} (R_f8 : f8_R) (R_f11 : f11_R) (R_f13 : f13_R) (R_f16 : f16_R) (R_f18 : f18_R) (R_f20 : f20_R) (R_f21 : f21_R) (k : Nat) (K : Bool → Option X)   : Option X :=
R_f8 _ (fun u1 =>
R_f8 _ (fun u2 =>
R_f11 _ (fun u3 =>
grd (CV.isA 3 u3.1) <|
grd (CV.isI .i64 (CV.cellD 0 u3.1)) <|
grd (CV.isB (CV.cellD 1 u3.1)) <|
grd (CV.isI .i64 (CV.cellD 2 u3.1)) <|
R_f11 _ (fun u4 =>
grd (CV.isA 3 u4.1) <|
grd (CV.isI .i64 (CV.cellD 0 u4.1)) <|
grd (CV.isB (CV.cellD 1 u4.1)) <|
grd (CV.isI .i64 (CV.cellD 2 u4.1)) <|
R_f13 _ (fun u5 =>
R_f16 _ (fun u6 =>
R_f18 _ (fun u7 =>
R_f18 _ (fun u8 =>
(bif (u1.2.1 == 0) then
(bif ((Nat.cast (u1.1) : Int) == 1) then
grd (decide (0 < (Nat.cast (u1.1) : Int))) <|
Option.bind (u1.2.2)[0]? fun e9 =>
grd (CV.isI .u8 e9) <|
(bif ((CV.toI e9) == 58) then
(bif (u2.2.1 == 0) then
(bif ((Nat.cast (u2.1) : Int) == 1) then
grd (decide (0 < (Nat.cast (u2.1) : Int))) <|
Option.bind (u2.2.2)[0]? fun e10 =>
grd (CV.isI .u8 e10) <|
(bif ((CV.toI e10) == 6) then
(bif (u3.2 == 0) then
(bif ((CV.toI (CV.cellD 0 u3.1)) == 3) then
(bif (CV.toB (CV.cellD 1 u3.1)) then
(bif ((CV.toI (CV.cellD 2 u3.1)) == 64) then
(bif (u4.2 == 20) then
(bif u5.2.2.1 then
(bif u5.2.1 then
(bif ((Nat.cast (u5.1) : Int) == 16) then
(bif (!u7.1) then
(bif (u7.2.1 == 0) then
(bif u8.1 then
(bif (u8.2.1 == 0) then
R_f20 _ (fun u11 =>
(bif (u11.1 == 20) then
R_f21 _ (fun u12 =>
K (((Nat.cast (u12.1) : Int) == 20))) (u11.2.1) (u11.2.2.1) (u11.2.2.2.1) (u11.2.2.2.2)
else
K (false))) (u8.2.2.1) (u8.2.2.2.1) (u8.2.2.2.2.1) (u8.2.2.2.2.2)
else
K (false))
else
K (false))
else
K (false))
else
K (false))
else
K (false))
else
K (false))
else
K (false))
else
K (false))
else
K (false))
else
K (false))
else
K (false))
else
K (false))
else
K (false))
else
K (false))
else
K (false))
else
K (false))
else
K (false))
else
K (false))) ((CV.agg [(CV.int .i64 1), (CV.bool false), (CV.int .i64 16)])) ((List.take 4 (List.drop 0 [(CV.int .u8 1), (CV.int .u8 2), (CV.int .u8 3), (CV.int .u8 4)]))) (u7.2.2.1) (u7.2.2.2.1) (u7.2.2.2.2.1) (u7.2.2.2.2.2)) ((CV.agg [(CV.int .i64 0), (CV.bool true), (CV.int .i64 16)])) ((List.take u5.1 (List.drop 0 u5.2.2.2))) (u6.1) (0) (false) (u6.2)) (20)) ((List.take 20 (List.drop 0 (List.replicate 20 (CV.int .u8 0))))) (0) (16)) ((List.take 1 (List.drop 0 [(CV.int .u8 7)])))) ((List.take u1.1 (List.drop 0 u1.2.2)))) ((CV.agg [(CV.int .i64 0), (CV.bool false), (CV.int .i64 1024)]))) ((CV.agg [(CV.int .i64 3), (CV.bool true), (CV.int .i64 64)]))
/-- "outpost/outpostlaw10.alive" -/
def f7_A (R_f8 : f8_R) (R_f11 : f11_R) (R_f13 : f13_R) (R_f16 : f16_R) (R_f18 : f18_R) (R_f20 : f20_R) (R_f21 : f21_R) (k : Nat) : f7_R := fun X K  => f7_T R_f8 R_f11 R_f13 R_f16 R_f18 R_f20 R_f21 k K  
set_option maxRecDepth 100000 in
theorem f7_ev' {X : Type} (R_f8 : f8_R) (R_f11 : f11_R) (R_f13 : f13_R) (R_f16 : f16_R) (R_f18 : f18_R) (R_f20 : f20_R) (R_f21 : f21_R) (hR_f8 : AnsOk Try.prog 8 (f8_cOf R_f8)) (hR_f11 : AnsOk Try.prog 11 (f11_cOf R_f11)) (hR_f13 : AnsOk Try.prog 13 (f13_cOf R_f13)) (hR_f16 : AnsOk Try.prog 16 (f16_cOf R_f16)) (hR_f18 : AnsOk Try.prog 18 (f18_cOf R_f18)) (hR_f20 : AnsOk Try.prog 20 (f20_cOf R_f20)) (hR_f21 : AnsOk Try.prog 21 (f21_cOf R_f21)) (k : Nat) (K : Out → Option X)  : evFn (f7_cx R_f8 R_f11 R_f13 R_f16 R_f18 R_f20 R_f21 hR_f8 hR_f11 hR_f13 hR_f16 hR_f18 hR_f20 hR_f21) [] k Try.f7.ntmps Try.f7.results.toList (Try.f7.body.getD .skip) [] [] K = f7_T R_f8 R_f11 R_f13 R_f16 R_f18 R_f20 R_f21 k (fun u => K (f7_out u))  := by kernel_rfl
theorem f7_ev {X : Type} (R_f8 : f8_R) (R_f11 : f11_R) (R_f13 : f13_R) (R_f16 : f16_R) (R_f18 : f18_R) (R_f20 : f20_R) (R_f21 : f21_R) (hR_f8 : AnsOk Try.prog 8 (f8_cOf R_f8)) (hR_f11 : AnsOk Try.prog 11 (f11_cOf R_f11)) (hR_f13 : AnsOk Try.prog 13 (f13_cOf R_f13)) (hR_f16 : AnsOk Try.prog 16 (f16_cOf R_f16)) (hR_f18 : AnsOk Try.prog 18 (f18_cOf R_f18)) (hR_f20 : AnsOk Try.prog 20 (f20_cOf R_f20)) (hR_f21 : AnsOk Try.prog 21 (f21_cOf R_f21)) (k : Nat) (K : Out → Option X)  : evFn (f7_cx R_f8 R_f11 R_f13 R_f16 R_f18 R_f20 R_f21 hR_f8 hR_f11 hR_f13 hR_f16 hR_f18 hR_f20 hR_f21) [] k Try.f7.ntmps Try.f7.results.toList (Try.f7.body.getD .skip) [] [] K = f7_A R_f8 R_f11 R_f13 R_f16 R_f18 R_f20 R_f21 k X (fun u => K (f7_out u))  := (f7_ev' R_f8 R_f11 R_f13 R_f16 R_f18 R_f20 R_f21 hR_f8 hR_f11 hR_f13 hR_f16 hR_f18 hR_f20 hR_f21 k K ).trans rfl
theorem f7_okA (R_f8 : f8_R) (R_f11 : f11_R) (R_f13 : f13_R) (R_f16 : f16_R) (R_f18 : f18_R) (R_f20 : f20_R) (R_f21 : f21_R) (hR_f8 : AnsOk Try.prog 8 (f8_cOf R_f8)) (hR_f11 : AnsOk Try.prog 11 (f11_cOf R_f11)) (hR_f13 : AnsOk Try.prog 13 (f13_cOf R_f13)) (hR_f16 : AnsOk Try.prog 16 (f16_cOf R_f16)) (hR_f18 : AnsOk Try.prog 18 (f18_cOf R_f18)) (hR_f20 : AnsOk Try.prog 20 (f20_cOf R_f20)) (hR_f21 : AnsOk Try.prog 21 (f21_cOf R_f21)) (k : Nat) : AnsOk Try.prog 7 (f7_cOf (f7_A R_f8 R_f11 R_f13 R_f16 R_f18 R_f20 R_f21 k)) := by
  intro X xs ns K x h
  unfold f7_cOf at h ⊢
  split at h
  · exact ans_main S (f7_Cok R_f8 R_f11 R_f13 R_f16 R_f18 R_f20 R_f21 hR_f8 hR_f11 hR_f13 hR_f16 hR_f18 hR_f20 hR_f21) Try.func7 (ent_of Try.func7 (by kernel_rfl) rfl) rfl (fun X K => f7_ev R_f8 R_f11 R_f13 R_f16 R_f18 R_f20 R_f21 hR_f8 hR_f11 hR_f13 hR_f16 hR_f18 hR_f20 hR_f21 k K ) h
  · cases h
/-- "outpost/outpostlaw10.alive" -/
def f7 {X : Type} (k : Nat) (K : Bool → Option X)  : Option X := f7_A (fun X => @f8 X k) (fun X => @f11 X k) (fun X => @f13 X k) (fun X => @f16 X k) (fun X => @f18 X k) (fun X => @f20 X k) (fun X => @f21 X k) k X K 
theorem f7_ok (k : Nat) : AnsOk Try.prog 7 (f7_cOf (fun X => @f7 X k)) := f7_okA (fun X => @f8 X k) (fun X => @f11 X k) (fun X => @f13 X k) (fun X => @f16 X k) (fun X => @f18 X k) (fun X => @f20 X k) (fun X => @f21 X k) (f8_ok k) (f11_ok k) (f13_ok k) (f16_ok k) (f18_ok k) (f20_ok k) (f21_ok k) k
abbrev f10_R : Type 1 := (X : Type) → (CV → Option X) → CV → Option X
def f10_out (u : CV) : Out := ⟨(.v u), []⟩
def f10_cOf (R : f10_R) : FnC := fun X xs ns K => match xs, ns with
  | [(.v x0)], [] => R X (fun u => K (f10_out u)) x0
  | _, _ => none
def f10_plan : Nat → Option (List Nat × List Wk)
  | 0 => some ([0], [])
  | 1 => some ([1, 2], [])
  | _ => none
def f10_C : Fns := noC
theorem f10_Cok : CsOk Try.prog (f10_C) := noC_ok
def f10_cx : Cx := mkCx (tabOf rows) (f10_C) md (cmpIn cmps) f10_plan (f10_Cok)
def f10_T {X : Type} (k : Nat) (K : CV → Option X)  (x0 : CV) : Option X :=
grd (CV.isA 3 x0) <|
grd (CV.isI .i64 (CV.cellD 0 x0)) <|
grd (CV.isB (CV.cellD 1 x0)) <|
grd (CV.isI .i64 (CV.cellD 2 x0)) <|
K ((CV.agg [(CV.int .i64 (CV.toI (CV.cellD 0 x0))), (CV.bool (CV.toB (CV.cellD 1 x0))), (CV.int .i64 (CV.toI (CV.cellD 2 x0)))]))
/-- "outpost/outpostlaw10.as" -/
def f10_A (k : Nat) : f10_R := fun X K x0 => f10_T k K  x0
set_option maxRecDepth 100000 in
theorem f10_ev' {X : Type} (k : Nat) (K : Out → Option X) (x0 : CV) : evFn (f10_cx) [] k Try.f10.ntmps Try.f10.results.toList (Try.f10.body.getD .skip) [(.v x0)] [] K = f10_T k (fun u => K (f10_out u)) x0 := by kernel_rfl
theorem f10_ev {X : Type} (k : Nat) (K : Out → Option X) (x0 : CV) : evFn (f10_cx) [] k Try.f10.ntmps Try.f10.results.toList (Try.f10.body.getD .skip) [(.v x0)] [] K = f10_A k X (fun u => K (f10_out u)) x0 := (f10_ev' k K x0).trans rfl
theorem f10_okA (k : Nat) : AnsOk Try.prog 10 (f10_cOf (f10_A k)) := by
  intro X xs ns K x h
  unfold f10_cOf at h ⊢
  split at h
  · exact ans_main S (f10_Cok) Try.func10 (ent_of Try.func10 (by kernel_rfl) rfl) rfl (fun X K => f10_ev k K _) h
  · cases h
/-- "outpost/outpostlaw10.as" -/
def f10 {X : Type} (k : Nat) (K : CV → Option X) (x0 : CV) : Option X := f10_A k X K x0
theorem f10_ok (k : Nat) : AnsOk Try.prog 10 (f10_cOf (fun X => @f10 X k)) := f10_okA k
abbrev f26_R : Type 1 := (X : Type) → (Int → Option X) → Int → Option X
def f26_out (u : Int) : Out := ⟨(.v (CV.int .i64 u)), []⟩
def f26_cOf (R : f26_R) : FnC := fun X xs ns K => match xs, ns with
  | [(.v (CV.int .i64 x0))], [] => R X (fun u => K (f26_out u)) x0
  | _, _ => none
def f26_plan : Nat → Option (List Nat × List Wk)
  | 0 => some ([0], [])
  | 1 => some ([0], [])
  | 2 => some ([0, 3], [])
  | 3 => some ([0, 3, 4], [])
  | 4 => some ([0, 3, 4], [])
  | 5 => some ([0, 3, 4], [])
  | 6 => some ([4], [])
  | 7 => some ([0, 3, 4], [])
  | 8 => some ([], [])
  | _ => none
def f26_C : Fns := noC
theorem f26_Cok : CsOk Try.prog (f26_C) := noC_ok
def f26_cx : Cx := mkCx (tabOf rows) (f26_C) md (cmpIn cmps) f26_plan (f26_Cok)
def f26_S1 (v : Int × Int × Int) : St := ⟨[(.v (CV.int .i64 v.1)), .undef, .undef, (.v (CV.int .i64 v.2.1)), (.v (CV.int .i64 v.2.2)), .undef, .undef, .undef, .undef, .undef, .undef, .undef, .undef, .undef, .undef], []⟩
def f26_T1 {X : Type} (k : Nat) (K : Int → Option X)   (rec1 : Int × Int × Int → Option X) (v5_0 : Int × Int × Int) : Option X :=
(bif (decide (v5_0.2.2 < 7)) then
(bif (v5_0.2.1 == v5_0.1) then
K (v5_0.2.2)
else
rec1 (v5_0.1, (IntKind.wrap .i64 (v5_0.2.1 * 2)), (IntKind.wrap .i64 (v5_0.2.2 + 1))))
else
K ((-1)))
def f26_L1 {X : Type} (k : Nat) (K : Int → Option X)  (rec1 : Int × Int × Int → Option X) (v : Int × Int × Int) : Option X := f26_T1 k K   rec1 v
set_option maxRecDepth 100000 in
theorem f26_L1_ev {X : Type} (k : Nat) (K : Out → Option X)  (r1 : St → Option X) (v : Int × Int × Int) : loopB (f26_cx) k [.r, .r, .l, .r, .b] (Try.f26.body.getD .skip) (retK (f26_cx) [] Try.f26.results.toList K) [] r1 (f26_S1 v) = f26_T1 k (fun u => K (f26_out u))   (fun v => r1 (f26_S1 v)) v := by kernel_rfl
theorem f26_L1_it {X : Type} (k : Nat) (K : Out → Option X)  : (fun v => iter (loopB (f26_cx) k [.r, .r, .l, .r, .b] (Try.f26.body.getD .skip) (retK (f26_cx) [] Try.f26.results.toList K) []) k (f26_S1 v)) = iterV (f26_L1 k (fun u => K (f26_out u)) ) k :=
  iter_map (fun r1 v => (f26_L1_ev k K  r1 v).trans rfl) k
def f26_T {X : Type} (k : Nat) (K : Int → Option X) (loop1 : Int × Int × Int → Option X) (x0 : Int) : Option X :=
loop1 (x0, 16, 0)
/-- "outpost/outpostref10.power" -/
def f26_A (k : Nat) : f26_R := fun X K x0 => f26_T k K (iterV (f26_L1 k K) k) x0
set_option maxRecDepth 100000 in
theorem f26_ev' {X : Type} (k : Nat) (K : Out → Option X) (x0 : Int) : evFn (f26_cx) [] k Try.f26.ntmps Try.f26.results.toList (Try.f26.body.getD .skip) [(.v (CV.int .i64 x0))] [] K = f26_T k (fun u => K (f26_out u)) (fun v => iter (loopB (f26_cx) k [.r, .r, .l, .r, .b] (Try.f26.body.getD .skip) (retK (f26_cx) [] Try.f26.results.toList K) []) k (f26_S1 v)) x0 := by kernel_rfl
theorem f26_ev {X : Type} (k : Nat) (K : Out → Option X) (x0 : Int) : evFn (f26_cx) [] k Try.f26.ntmps Try.f26.results.toList (Try.f26.body.getD .skip) [(.v (CV.int .i64 x0))] [] K = f26_A k X (fun u => K (f26_out u)) x0 := (f26_ev' k K x0).trans (by rw [f26_L1_it k K]; rfl)
theorem f26_okA (k : Nat) : AnsOk Try.prog 26 (f26_cOf (f26_A k)) := by
  intro X xs ns K x h
  unfold f26_cOf at h ⊢
  split at h
  · exact ans_main S (f26_Cok) Try.func26 (ent_of Try.func26 (by kernel_rfl) rfl) rfl (fun X K => f26_ev k K _) h
  · cases h
/-- "outpost/outpostref10.power" -/
def f26 {X : Type} (k : Nat) (K : Int → Option X) (x0 : Int) : Option X := f26_A k X K x0
theorem f26_ok (k : Nat) : AnsOk Try.prog 26 (f26_cOf (fun X => @f26 X k)) := f26_okA k
abbrev f25_R : Type 1 := (X : Type) → (Bool → Option X) → Int → Int → Option X
def f25_out (u : Bool) : Out := ⟨(.v (CV.bool u)), []⟩
def f25_cOf (R : f25_R) : FnC := fun X xs ns K => match xs, ns with
  | [(.v (CV.int .i64 x0)), (.v (CV.int .i64 x1))], [] => R X (fun u => K (f25_out u)) x0 x1
  | _, _ => none
def f25_plan : Nat → Option (List Nat × List Wk)
  | 0 => some ([0, 1], [])
  | 1 => some ([0, 1], [])
  | _ => none
def f25_C (R_f26 : f26_R) : Fns := (orC 26 (f26_cOf R_f26) noC)
theorem f25_Cok (R_f26 : f26_R) (hR_f26 : AnsOk Try.prog 26 (f26_cOf R_f26)) : CsOk Try.prog (f25_C R_f26) := (orC_ok hR_f26 noC_ok)
def f25_cx (R_f26 : f26_R) (hR_f26 : AnsOk Try.prog 26 (f26_cOf R_f26)) : Cx := mkCx (tabOf rows) (f25_C R_f26) md (cmpIn cmps) f25_plan (f25_Cok R_f26 hR_f26)
def f25_T {X : Type} (R_f26 : f26_R) (k : Nat) (K : Bool → Option X)  (x0 : Int) (x1 : Int) : Option X :=
R_f26 _ (fun u1 =>
(bif (decide (u1 ≥ 0)) then
(bif (decide (x0 ≥ 0)) then
K ((decide (x0 < 1048576)))
else
K (false))
else
K (false))) (x1)
/-- "outpost/outpostref10.Right" -/
def f25_A (R_f26 : f26_R) (k : Nat) : f25_R := fun X K x0 x1 => f25_T R_f26 k K  x0 x1
set_option maxRecDepth 100000 in
theorem f25_ev' {X : Type} (R_f26 : f26_R) (hR_f26 : AnsOk Try.prog 26 (f26_cOf R_f26)) (k : Nat) (K : Out → Option X) (x0 : Int) (x1 : Int) : evFn (f25_cx R_f26 hR_f26) [] k Try.f25.ntmps Try.f25.results.toList (Try.f25.body.getD .skip) [(.v (CV.int .i64 x0)), (.v (CV.int .i64 x1))] [] K = f25_T R_f26 k (fun u => K (f25_out u)) x0 x1 := by kernel_rfl
theorem f25_ev {X : Type} (R_f26 : f26_R) (hR_f26 : AnsOk Try.prog 26 (f26_cOf R_f26)) (k : Nat) (K : Out → Option X) (x0 : Int) (x1 : Int) : evFn (f25_cx R_f26 hR_f26) [] k Try.f25.ntmps Try.f25.results.toList (Try.f25.body.getD .skip) [(.v (CV.int .i64 x0)), (.v (CV.int .i64 x1))] [] K = f25_A R_f26 k X (fun u => K (f25_out u)) x0 x1 := (f25_ev' R_f26 hR_f26 k K x0 x1).trans rfl
theorem f25_okA (R_f26 : f26_R) (hR_f26 : AnsOk Try.prog 26 (f26_cOf R_f26)) (k : Nat) : AnsOk Try.prog 25 (f25_cOf (f25_A R_f26 k)) := by
  intro X xs ns K x h
  unfold f25_cOf at h ⊢
  split at h
  · exact ans_main S (f25_Cok R_f26 hR_f26) Try.func25 (ent_of Try.func25 (by kernel_rfl) rfl) rfl (fun X K => f25_ev R_f26 hR_f26 k K _ _) h
  · cases h
/-- "outpost/outpostref10.Right" -/
def f25 {X : Type} (k : Nat) (K : Bool → Option X) (x0 : Int) (x1 : Int) : Option X := f25_A (fun X => @f26 X k) k X K x0 x1
theorem f25_ok (k : Nat) : AnsOk Try.prog 25 (f25_cOf (fun X => @f25 X k)) := f25_okA (fun X => @f26 X k) (f26_ok k) k
abbrev f27_R : Type 1 := (X : Type) → (Nat × (List CV) → Option X) → Int → Option X
def f27_out (u : Nat × (List CV)) : Out := ⟨(.osl [2000] none 0 u.1), [([2000], (.row false none u.2))]⟩
def f27_cOf (R : f27_R) : FnC := fun X xs ns K => match xs, ns with
  | [(.v (CV.int .i64 x0))], [] => R X (fun u => K (f27_out u)) x0
  | _, _ => none
def f27_plan : Nat → Option (List Nat × List Wk)
  | 0 => some ([0], [])
  | 1 => some ([0], [])
  | 2 => some ([], [])
  | 3 => some ([0], [])
  | _ => none
def f27_C (R_f27 : f27_R) : Fns := (orC 27 (f27_cOf R_f27) noC)
theorem f27_Cok (R_f27 : f27_R) (hR_f27 : AnsOk Try.prog 27 (f27_cOf R_f27)) : CsOk Try.prog (f27_C R_f27) := (orC_ok hR_f27 noC_ok)
def f27_cx (R_f27 : f27_R) (hR_f27 : AnsOk Try.prog 27 (f27_cOf R_f27)) : Cx := mkCx (tabOf rows) (f27_C R_f27) md (cmpIn cmps) f27_plan (f27_Cok R_f27 hR_f27)
def f27_T {X : Type} (R_f27 : f27_R) (k : Nat) (K : Nat × (List CV) → Option X)  (x0 : Int) : Option X :=
(bif (decide (x0 ≤ 0)) then
K (0, (List.take 0 []))
else
R_f27 _ (fun u1 =>
grd (decide ((u1.1 + (List.length (List.take 1 (List.drop 0 [(CV.int .u8 (IntKind.wrap .u8 (Int.tmod x0 256)))])))) * 1 ≤ 140737488355328)) <|
K ((u1.1 + (List.length (List.take 1 (List.drop 0 [(CV.int .u8 (IntKind.wrap .u8 (Int.tmod x0 256)))])))), (List.take (0 + (u1.1 + (List.length (List.take 1 (List.drop 0 [(CV.int .u8 (IntKind.wrap .u8 (Int.tmod x0 256)))]))))) ((List.take u1.1 u1.2) ++ (List.take 1 (List.drop 0 [(CV.int .u8 (IntKind.wrap .u8 (Int.tmod x0 256)))])))))) ((IntKind.wrap .i64 (Int.tdiv x0 256))))
/-- "outpost/outpostref08.Uint" -/
def f27_A (R_f27 : f27_R) (k : Nat) : f27_R := fun X K x0 => f27_T R_f27 k K  x0
set_option maxRecDepth 100000 in
theorem f27_ev' {X : Type} (R_f27 : f27_R) (hR_f27 : AnsOk Try.prog 27 (f27_cOf R_f27)) (k : Nat) (K : Out → Option X) (x0 : Int) : evFn (f27_cx R_f27 hR_f27) [] k Try.f27.ntmps Try.f27.results.toList (Try.f27.body.getD .skip) [(.v (CV.int .i64 x0))] [] K = f27_T R_f27 k (fun u => K (f27_out u)) x0 := by kernel_rfl
theorem f27_ev {X : Type} (R_f27 : f27_R) (hR_f27 : AnsOk Try.prog 27 (f27_cOf R_f27)) (k : Nat) (K : Out → Option X) (x0 : Int) : evFn (f27_cx R_f27 hR_f27) [] k Try.f27.ntmps Try.f27.results.toList (Try.f27.body.getD .skip) [(.v (CV.int .i64 x0))] [] K = f27_A R_f27 k X (fun u => K (f27_out u)) x0 := (f27_ev' R_f27 hR_f27 k K x0).trans rfl
theorem f27_okA (R_f27 : f27_R) (hR_f27 : AnsOk Try.prog 27 (f27_cOf R_f27)) (k : Nat) : AnsOk Try.prog 27 (f27_cOf (f27_A R_f27 k)) := by
  intro X xs ns K x h
  unfold f27_cOf at h ⊢
  split at h
  · exact ans_main S (f27_Cok R_f27 hR_f27) Try.func27 (ent_of Try.func27 (by kernel_rfl) rfl) rfl (fun X K => f27_ev R_f27 hR_f27 k K _) h
  · cases h
def f27_r : Nat → f27_R
  | 0 => fun _ _ _ => none
  | k + 1 => f27_A (f27_r k) k
theorem f27_okr : ∀ k, AnsOk Try.prog 27 (f27_cOf (f27_r k))
  | 0 => by
    intro X xs ns K x h
    unfold f27_cOf at h
    split at h <;> cases h
  | k + 1 => f27_okA (f27_r k) (f27_okr k) k
def f27 {X : Type} (k : Nat) (K : Nat × (List CV) → Option X) (x0 : Int) : Option X := f27_r k X K x0
theorem f27_ok (k : Nat) : AnsOk Try.prog 27 (f27_cOf (fun X => @f27 X k)) := f27_okr k
abbrev f9_R : Type 1 := (X : Type) → (Nat × Int × (List CV) → Option X) → CV → Option X
def f9_out (u : Nat × Int × (List CV)) : Out := ⟨(.tup [(.osl [0, 2000] none 0 u.1), (.v (CV.int .i64 u.2.1))]), [([0, 2000], (.row false none u.2.2))]⟩
def f9_cOf (R : f9_R) : FnC := fun X xs ns K => match xs, ns with
  | [(.v x0)], [] => R X (fun u => K (f9_out u)) x0
  | _, _ => none
def f9_plan : Nat → Option (List Nat × List Wk)
  | 0 => some ([0], [])
  | 1 => some ([1], [])
  | 2 => some ([], [])
  | 3 => some ([1], [])
  | 4 => some ([1, 4], [])
  | 5 => some ([4], [])
  | 6 => some ([4], [])
  | _ => none
def f9_C (R_f25 : f25_R) (R_f26 : f26_R) (R_f27 : f27_R) : Fns := (orC 25 (f25_cOf R_f25) (orC 26 (f26_cOf R_f26) (orC 27 (f27_cOf R_f27) noC)))
theorem f9_Cok (R_f25 : f25_R) (R_f26 : f26_R) (R_f27 : f27_R) (hR_f25 : AnsOk Try.prog 25 (f25_cOf R_f25)) (hR_f26 : AnsOk Try.prog 26 (f26_cOf R_f26)) (hR_f27 : AnsOk Try.prog 27 (f27_cOf R_f27)) : CsOk Try.prog (f9_C R_f25 R_f26 R_f27) := (orC_ok hR_f25 (orC_ok hR_f26 (orC_ok hR_f27 noC_ok)))
def f9_cx (R_f25 : f25_R) (R_f26 : f26_R) (R_f27 : f27_R) (hR_f25 : AnsOk Try.prog 25 (f25_cOf R_f25)) (hR_f26 : AnsOk Try.prog 26 (f26_cOf R_f26)) (hR_f27 : AnsOk Try.prog 27 (f27_cOf R_f27)) : Cx := mkCx (tabOf rows) (f9_C R_f25 R_f26 R_f27) md (cmpIn cmps) f9_plan (f9_Cok R_f25 R_f26 R_f27 hR_f25 hR_f26 hR_f27)
def f9_J1 {X : Type} (R_f25 : f25_R) (R_f26 : f26_R) (R_f27 : f27_R) (k : Nat) (K : Nat × Int × (List CV) → Option X)  (v4 : Int) : Option X :=
R_f27 _ (fun u5 =>
K (u5.1, 0, (List.take (0 + u5.1) u5.2))) (v4)
def f9_T {X : Type} (R_f25 : f25_R) (R_f26 : f26_R) (R_f27 : f27_R) (k : Nat) (K : Nat × Int × (List CV) → Option X)  (x0 : CV) : Option X :=
grd (CV.isA 3 x0) <|
grd (CV.isI .i64 (CV.cellD 0 x0)) <|
grd (CV.isB (CV.cellD 1 x0)) <|
grd (CV.isI .i64 (CV.cellD 2 x0)) <|
R_f25 _ (fun u2 =>
(bif (!u2) then
K (0, 1, (List.take 0 []))
else
R_f26 _ (fun u3 =>
(bif (CV.toB (CV.cellD 1 x0)) then
f9_J1 R_f25 R_f26 R_f27 k K ((IntKind.wrap .i64 ((IntKind.wrap .i64 ((IntKind.wrap .i64 ((CV.toI (CV.cellD 0 x0)) * 16)) + u3)) + 8)))
else
f9_J1 R_f25 R_f26 R_f27 k K ((IntKind.wrap .i64 ((IntKind.wrap .i64 ((CV.toI (CV.cellD 0 x0)) * 16)) + u3))))) ((CV.toI (CV.cellD 2 x0))))) ((CV.toI (CV.cellD 0 x0))) ((CV.toI (CV.cellD 2 x0)))
/-- "outpost/outpostref10.Write" -/
def f9_A (R_f25 : f25_R) (R_f26 : f26_R) (R_f27 : f27_R) (k : Nat) : f9_R := fun X K x0 => f9_T R_f25 R_f26 R_f27 k K  x0
set_option maxRecDepth 100000 in
theorem f9_ev' {X : Type} (R_f25 : f25_R) (R_f26 : f26_R) (R_f27 : f27_R) (hR_f25 : AnsOk Try.prog 25 (f25_cOf R_f25)) (hR_f26 : AnsOk Try.prog 26 (f26_cOf R_f26)) (hR_f27 : AnsOk Try.prog 27 (f27_cOf R_f27)) (k : Nat) (K : Out → Option X) (x0 : CV) : evFn (f9_cx R_f25 R_f26 R_f27 hR_f25 hR_f26 hR_f27) [⟨0, [0], some [0, 2000]⟩] k Try.f9.ntmps Try.f9.results.toList (Try.f9.body.getD .skip) [(.v x0)] [] K = f9_T R_f25 R_f26 R_f27 k (fun u => K (f9_out u)) x0 := by kernel_rfl
theorem f9_ev {X : Type} (R_f25 : f25_R) (R_f26 : f26_R) (R_f27 : f27_R) (hR_f25 : AnsOk Try.prog 25 (f25_cOf R_f25)) (hR_f26 : AnsOk Try.prog 26 (f26_cOf R_f26)) (hR_f27 : AnsOk Try.prog 27 (f27_cOf R_f27)) (k : Nat) (K : Out → Option X) (x0 : CV) : evFn (f9_cx R_f25 R_f26 R_f27 hR_f25 hR_f26 hR_f27) [⟨0, [0], some [0, 2000]⟩] k Try.f9.ntmps Try.f9.results.toList (Try.f9.body.getD .skip) [(.v x0)] [] K = f9_A R_f25 R_f26 R_f27 k X (fun u => K (f9_out u)) x0 := (f9_ev' R_f25 R_f26 R_f27 hR_f25 hR_f26 hR_f27 k K x0).trans rfl
theorem f9_okA (R_f25 : f25_R) (R_f26 : f26_R) (R_f27 : f27_R) (hR_f25 : AnsOk Try.prog 25 (f25_cOf R_f25)) (hR_f26 : AnsOk Try.prog 26 (f26_cOf R_f26)) (hR_f27 : AnsOk Try.prog 27 (f27_cOf R_f27)) (k : Nat) : AnsOk Try.prog 9 (f9_cOf (f9_A R_f25 R_f26 R_f27 k)) := by
  intro X xs ns K x h
  unfold f9_cOf at h ⊢
  split at h
  · exact ans_main S (f9_Cok R_f25 R_f26 R_f27 hR_f25 hR_f26 hR_f27) Try.func9 (ent_of Try.func9 (by kernel_rfl) rfl) rfl (fun X K => f9_ev R_f25 R_f26 R_f27 hR_f25 hR_f26 hR_f27 k K _) h
  · cases h
/-- "outpost/outpostref10.Write" -/
def f9 {X : Type} (k : Nat) (K : Nat × Int × (List CV) → Option X) (x0 : CV) : Option X := f9_A (fun X => @f25 X k) (fun X => @f26 X k) (fun X => @f27 X k) k X K x0
theorem f9_ok (k : Nat) : AnsOk Try.prog 9 (f9_cOf (fun X => @f9 X k)) := f9_okA (fun X => @f25 X k) (fun X => @f26 X k) (fun X => @f27 X k) (f25_ok k) (f26_ok k) (f27_ok k) k
abbrev f29_R : Type 1 := (X : Type) → (Int × Bool → Option X) → (List CV) → Option X
def f29_out (u : Int × Bool) : Out := ⟨(.tup [(.v (CV.int .i64 u.1)), (.v (CV.bool u.2))]), []⟩
def f29_cOf (R : f29_R) : FnC := fun X xs ns K => match xs, ns with
  | [(.sl false none x0)], [] => R X (fun u => K (f29_out u)) x0
  | _, _ => none
def f29_plan : Nat → Option (List Nat × List Wk)
  | 0 => some ([0], [])
  | 1 => some ([0], [])
  | 2 => some ([], [])
  | 3 => some ([0], [])
  | 4 => some ([0, 4], [])
  | 5 => some ([0, 4, 5], [])
  | 6 => some ([0, 4, 5], [])
  | 7 => some ([0, 4, 5], [])
  | 8 => some ([4], [])
  | _ => none
def f29_C : Fns := noC
theorem f29_Cok : CsOk Try.prog (f29_C) := noC_ok
def f29_cx : Cx := mkCx (tabOf rows) (f29_C) md (cmpIn cmps) f29_plan (f29_Cok)
def f29_S1 (v : (List CV) × Int × Int) : St := ⟨[(.sl false none v.1), .undef, .undef, .undef, (.v (CV.int .i64 v.2.1)), (.v (CV.int .i64 v.2.2)), .undef, .undef, .undef, .undef, .undef, .undef, .undef, .undef, .undef, .undef, .undef, .undef, .undef, .undef, .undef, .undef, .undef, .undef], []⟩
def f29_T1 {X : Type} (k : Nat) (K : Int × Bool → Option X)   (rec1 : (List CV) × Int × Int → Option X) (v6_0 : (List CV) × Int × Int) : Option X :=
(bif (decide (v6_0.2.2 < (Nat.cast ((List.length v6_0.1)) : Int))) then
grd (decide (0 ≤ v6_0.2.2)) <|
Option.bind (v6_0.1)[(Int.toNat v6_0.2.2)]? fun e5 =>
grd (CV.isI .u8 e5) <|
rec1 (v6_0.1, (IntKind.wrap .i64 ((IntKind.wrap .i64 (v6_0.2.1 * 256)) + (IntKind.wrap .i64 (CV.toI e5)))), (IntKind.wrap .i64 (v6_0.2.2 + 1)))
else
K (v6_0.2.1, true))
def f29_L1 {X : Type} (k : Nat) (K : Int × Bool → Option X)  (rec1 : (List CV) × Int × Int → Option X) (v : (List CV) × Int × Int) : Option X := f29_T1 k K   rec1 v
set_option maxRecDepth 100000 in
theorem f29_L1_ev {X : Type} (k : Nat) (K : Out → Option X)  (r1 : St → Option X) (v : (List CV) × Int × Int) : loopB (f29_cx) k [.r, .r, .r, .l, .r, .b] (Try.f29.body.getD .skip) (retK (f29_cx) [] Try.f29.results.toList K) [] r1 (f29_S1 v) = f29_T1 k (fun u => K (f29_out u))   (fun v => r1 (f29_S1 v)) v := by kernel_rfl
theorem f29_L1_it {X : Type} (k : Nat) (K : Out → Option X)  : (fun v => iter (loopB (f29_cx) k [.r, .r, .r, .l, .r, .b] (Try.f29.body.getD .skip) (retK (f29_cx) [] Try.f29.results.toList K) []) k (f29_S1 v)) = iterV (f29_L1 k (fun u => K (f29_out u)) ) k :=
  iter_map (fun r1 v => (f29_L1_ev k K  r1 v).trans rfl) k
def f29_T {X : Type} (k : Nat) (K : Int × Bool → Option X) (loop1 : (List CV) × Int × Int → Option X) (x0 : List CV) : Option X :=
(bif (decide ((Nat.cast ((List.length x0)) : Int) > 7)) then
K (0, false)
else
loop1 (x0, 0, 0))
/-- "outpost/outpostref08.Number" -/
def f29_A (k : Nat) : f29_R := fun X K x0 => f29_T k K (iterV (f29_L1 k K) k) x0
set_option maxRecDepth 100000 in
theorem f29_ev' {X : Type} (k : Nat) (K : Out → Option X) (x0 : List CV) : evFn (f29_cx) [] k Try.f29.ntmps Try.f29.results.toList (Try.f29.body.getD .skip) [(.sl false none x0)] [] K = f29_T k (fun u => K (f29_out u)) (fun v => iter (loopB (f29_cx) k [.r, .r, .r, .l, .r, .b] (Try.f29.body.getD .skip) (retK (f29_cx) [] Try.f29.results.toList K) []) k (f29_S1 v)) x0 := by kernel_rfl
theorem f29_ev {X : Type} (k : Nat) (K : Out → Option X) (x0 : List CV) : evFn (f29_cx) [] k Try.f29.ntmps Try.f29.results.toList (Try.f29.body.getD .skip) [(.sl false none x0)] [] K = f29_A k X (fun u => K (f29_out u)) x0 := (f29_ev' k K x0).trans (by rw [f29_L1_it k K]; rfl)
theorem f29_okA (k : Nat) : AnsOk Try.prog 29 (f29_cOf (f29_A k)) := by
  intro X xs ns K x h
  unfold f29_cOf at h ⊢
  split at h
  · exact ans_main S (f29_Cok) Try.func29 (ent_of Try.func29 (by kernel_rfl) rfl) rfl (fun X K => f29_ev k K _) h
  · cases h
/-- "outpost/outpostref08.Number" -/
def f29 {X : Type} (k : Nat) (K : Int × Bool → Option X) (x0 : List CV) : Option X := f29_A k X K x0
theorem f29_ok (k : Nat) : AnsOk Try.prog 29 (f29_cOf (fun X => @f29 X k)) := f29_okA k
abbrev f12_R : Type 1 := (X : Type) → (CV × Int → Option X) → (List CV) → Option X
def f12_out (u : CV × Int) : Out := ⟨(.tup [(.v u.1), (.v (CV.int .i64 u.2))]), []⟩
def f12_cOf (R : f12_R) : FnC := fun X xs ns K => match xs, ns with
  | [(.sl false none x0)], [] => R X (fun u => K (f12_out u)) x0
  | _, _ => none
def f12_plan : Nat → Option (List Nat × List Wk)
  | 0 => some ([0], [])
  | 1 => some ([0, 2], [])
  | 2 => some ([2], [])
  | 3 => some ([0, 2], [])
  | 4 => some ([2, 4], [])
  | 5 => some ([2], [])
  | 6 => some ([2, 4], [])
  | 7 => some ([2, 4, 6], [])
  | 8 => some ([2, 4, 6, 7], [])
  | 9 => some ([2, 4, 6, 7], [])
  | 10 => some ([2, 4, 6, 7], [])
  | 11 => some ([2, 4, 6], [])
  | _ => none
def f12_C (R_f29 : f29_R) : Fns := (orC 29 (f29_cOf R_f29) noC)
theorem f12_Cok (R_f29 : f29_R) (hR_f29 : AnsOk Try.prog 29 (f29_cOf R_f29)) : CsOk Try.prog (f12_C R_f29) := (orC_ok hR_f29 noC_ok)
def f12_cx (R_f29 : f29_R) (hR_f29 : AnsOk Try.prog 29 (f29_cOf R_f29)) : Cx := mkCx (tabOf rows) (f12_C R_f29) md (cmpIn cmps) f12_plan (f12_Cok R_f29 hR_f29)
def f12_S1 (v : Int × Int × Int) : St := ⟨[.undef, .undef, (.ptr [2] 0 0 0), .undef, (.v (CV.int .i64 v.1)), .undef, (.v (CV.int .i64 v.2.1)), (.v (CV.int .i64 v.2.2)), .undef, .undef, .undef, .undef, .undef, .undef, .undef, .undef, .undef, .undef, .undef, .undef, .undef, .undef, .undef, .undef, .undef, .undef, .undef, .undef, .undef, .undef, .undef, .undef, .undef, .undef, .undef, .undef, .undef], [([2], (.obj [(.v (CV.int .i64 0)), (.v (CV.bool false)), (.v (CV.int .i64 0))]))]⟩
def f12_T1 {X : Type} (R_f29 : f29_R) (k : Nat) (K : CV × Int → Option X)   (rec1 : Int × Int × Int → Option X) (v8_1 : Int × Int × Int) : Option X :=
(bif (decide (v8_1.2.2 < (Int.tmod v8_1.1 8))) then
rec1 (v8_1.1, (IntKind.wrap .i64 (v8_1.2.1 * 2)), (IntKind.wrap .i64 (v8_1.2.2 + 1)))
else
K ((CV.agg [(CV.int .i64 (IntKind.wrap .i64 (Int.tdiv v8_1.1 16))), (CV.bool ((Int.tmod (IntKind.wrap .i64 (Int.tdiv v8_1.1 8)) 2) == 1)), (CV.int .i64 v8_1.2.1)]), 0))
def f12_L1 {X : Type} (R_f29 : f29_R) (k : Nat) (K : CV × Int → Option X)  (rec1 : Int × Int × Int → Option X) (v : Int × Int × Int) : Option X := f12_T1 R_f29 k K   rec1 v
set_option maxRecDepth 100000 in
theorem f12_L1_ev {X : Type} (R_f29 : f29_R) (hR_f29 : AnsOk Try.prog 29 (f29_cOf R_f29)) (k : Nat) (K : Out → Option X)  (r1 : St → Option X) (v : Int × Int × Int) : loopB (f12_cx R_f29 hR_f29) k [.r, .r, .r, .r, .r, .l, .r, .b] (Try.f12.body.getD .skip) (retK (f12_cx R_f29 hR_f29) [] Try.f12.results.toList K) [] r1 (f12_S1 v) = f12_T1 R_f29 k (fun u => K (f12_out u))   (fun v => r1 (f12_S1 v)) v := by kernel_rfl
theorem f12_L1_it {X : Type} (R_f29 : f29_R) (hR_f29 : AnsOk Try.prog 29 (f29_cOf R_f29)) (k : Nat) (K : Out → Option X)  : (fun v => iter (loopB (f12_cx R_f29 hR_f29) k [.r, .r, .r, .r, .r, .l, .r, .b] (Try.f12.body.getD .skip) (retK (f12_cx R_f29 hR_f29) [] Try.f12.results.toList K) []) k (f12_S1 v)) = iterV (f12_L1 R_f29 k (fun u => K (f12_out u)) ) k :=
  iter_map (fun r1 v => (f12_L1_ev R_f29 hR_f29 k K  r1 v).trans rfl) k
def f12_T {X : Type} (R_f29 : f29_R) (k : Nat) (K : CV × Int → Option X) (loop1 : Int × Int × Int → Option X) (x0 : List CV) : Option X :=
(bif (decide ((Nat.cast ((List.length x0)) : Int) > 3)) then
K ((CV.agg [(CV.int .i64 0), (CV.bool false), (CV.int .i64 0)]), 20)
else
R_f29 _ (fun u1 =>
(bif ((Int.tmod u1.1 8) == 7) then
K ((CV.agg [(CV.int .i64 0), (CV.bool false), (CV.int .i64 0)]), 20)
else
loop1 (u1.1, 16, 0))) (x0))
/-- "outpost/outpostref10.Read" -/
def f12_A (R_f29 : f29_R) (k : Nat) : f12_R := fun X K x0 => f12_T R_f29 k K (iterV (f12_L1 R_f29 k K) k) x0
set_option maxRecDepth 100000 in
theorem f12_ev' {X : Type} (R_f29 : f29_R) (hR_f29 : AnsOk Try.prog 29 (f29_cOf R_f29)) (k : Nat) (K : Out → Option X) (x0 : List CV) : evFn (f12_cx R_f29 hR_f29) [] k Try.f12.ntmps Try.f12.results.toList (Try.f12.body.getD .skip) [(.sl false none x0)] [] K = f12_T R_f29 k (fun u => K (f12_out u)) (fun v => iter (loopB (f12_cx R_f29 hR_f29) k [.r, .r, .r, .r, .r, .l, .r, .b] (Try.f12.body.getD .skip) (retK (f12_cx R_f29 hR_f29) [] Try.f12.results.toList K) []) k (f12_S1 v)) x0 := by kernel_rfl
theorem f12_ev {X : Type} (R_f29 : f29_R) (hR_f29 : AnsOk Try.prog 29 (f29_cOf R_f29)) (k : Nat) (K : Out → Option X) (x0 : List CV) : evFn (f12_cx R_f29 hR_f29) [] k Try.f12.ntmps Try.f12.results.toList (Try.f12.body.getD .skip) [(.sl false none x0)] [] K = f12_A R_f29 k X (fun u => K (f12_out u)) x0 := (f12_ev' R_f29 hR_f29 k K x0).trans (by rw [f12_L1_it R_f29 hR_f29 k K]; rfl)
theorem f12_okA (R_f29 : f29_R) (hR_f29 : AnsOk Try.prog 29 (f29_cOf R_f29)) (k : Nat) : AnsOk Try.prog 12 (f12_cOf (f12_A R_f29 k)) := by
  intro X xs ns K x h
  unfold f12_cOf at h ⊢
  split at h
  · exact ans_main S (f12_Cok R_f29 hR_f29) Try.func12 (ent_of Try.func12 (by kernel_rfl) rfl) rfl (fun X K => f12_ev R_f29 hR_f29 k K _) h
  · cases h
/-- "outpost/outpostref10.Read" -/
def f12 {X : Type} (k : Nat) (K : CV × Int → Option X) (x0 : List CV) : Option X := f12_A (fun X => @f29 X k) k X K x0
theorem f12_ok (k : Nat) : AnsOk Try.prog 12 (f12_cOf (fun X => @f12 X k)) := f12_okA (fun X => @f29 X k) (f29_ok k) k
abbrev f14_R : Type 1 := (X : Type) → (Nat × Bool × Bool × (List CV) → Option X) → (List CV) → Int → Int → Option X
def f14_out (u : Nat × Bool × Bool × (List CV)) : Out := ⟨(.tup [(.osl [0, 2000] none 0 u.1), (.v (CV.bool u.2.1)), (.v (CV.bool u.2.2.1))]), [([0, 2000], (.row false none u.2.2.2))]⟩
def f14_cOf (R : f14_R) : FnC := fun X xs ns K => match xs, ns with
  | [(.sl false none x0), (.v (CV.int .i64 x1)), (.v (CV.int .i64 x2))], [] => R X (fun u => K (f14_out u)) x0 x1 x2
  | _, _ => none
def f14_plan : Nat → Option (List Nat × List Wk)
  | 0 => some ([0, 1, 2], [])
  | 1 => some ([0, 1, 2], [])
  | 2 => some ([], [])
  | 3 => some ([0, 1, 2], [])
  | 4 => some ([0, 1, 2, 9], [])
  | 5 => some ([0, 1, 2, 9, 10], [])
  | 6 => some ([0, 1, 2, 9, 10], [])
  | 7 => some ([0, 1, 2, 9, 10], [])
  | 8 => some ([0, 1, 2, 9], [])
  | 9 => some ([], [])
  | 10 => some ([0, 1, 2, 9], [])
  | _ => none
def f14_C (R_f25 : f25_R) : Fns := (orC 25 (f25_cOf R_f25) noC)
theorem f14_Cok (R_f25 : f25_R) (hR_f25 : AnsOk Try.prog 25 (f25_cOf R_f25)) : CsOk Try.prog (f14_C R_f25) := (orC_ok hR_f25 noC_ok)
def f14_cx (R_f25 : f25_R) (hR_f25 : AnsOk Try.prog 25 (f25_cOf R_f25)) : Cx := mkCx (tabOf rows) (f14_C R_f25) md (cmpIn cmps) f14_plan (f14_Cok R_f25 hR_f25)
def f14_S1 (v : (List CV) × Int × Int × Nat × Int × (List CV)) : St := ⟨[(.sl false none v.1), (.v (CV.int .i64 v.2.1)), (.v (CV.int .i64 v.2.2.1)), .undef, .undef, .undef, .undef, .undef, .undef, (.osl [9] none 0 v.2.2.2.1), (.v (CV.int .i64 v.2.2.2.2.1)), .undef, .undef, .undef, .undef, .undef, .undef, .undef, .undef, .undef, .undef, .undef, .undef, .undef, .undef, .undef, .undef, .undef, .undef, .undef, .undef, .undef, .undef, .undef, .undef, .undef, .undef, .undef, .undef, .undef, .undef, .undef, .undef, .undef, .undef, .undef, .undef, .undef, .undef, .undef, .undef, .undef, .undef, .undef, .undef, .undef, .undef], [([9], (.row false none v.2.2.2.2.2))]⟩
def f14_J1 {X : Type} (R_f25 : f25_R) (k : Nat) (K : Nat × Bool × Bool × (List CV) → Option X) (v6_2 : (List CV) × Int × Int × Nat × Int × (List CV)) (v8 : Unit) : Option X :=
K (v6_2.2.2.2.1, (decide ((IntKind.wrap .i64 ((IntKind.wrap .i64 (v6_2.2.1 * v6_2.2.2.1)) + v6_2.2.2.1)) < (Nat.cast ((List.length v6_2.1)) : Int))), true, (List.take (0 + v6_2.2.2.2.1) v6_2.2.2.2.2.2))
def f14_J2 {X : Type} (R_f25 : f25_R) (k : Nat) (K : Nat × Bool × Bool × (List CV) → Option X) (v6_2 : (List CV) × Int × Int × Nat × Int × (List CV)) (v9 : Unit) : Option X :=
K (v6_2.2.2.2.1, (decide ((IntKind.wrap .i64 ((IntKind.wrap .i64 (v6_2.2.1 * v6_2.2.2.1)) + v6_2.2.2.1)) < (Nat.cast ((List.length v6_2.1)) : Int))), true, (List.take (0 + v6_2.2.2.2.1) v6_2.2.2.2.2.2))
def f14_T1 {X : Type} (R_f25 : f25_R) (k : Nat) (K : Nat × Bool × Bool × (List CV) → Option X)   (rec1 : (List CV) × Int × Int × Nat × Int × (List CV) → Option X) (v6_2 : (List CV) × Int × Int × Nat × Int × (List CV)) : Option X :=
(bif (decide (v6_2.2.2.2.2.1 < (IntKind.wrap .i64 ((IntKind.wrap .i64 (v6_2.2.1 * v6_2.2.2.1)) + v6_2.2.2.1)))) then
(bif (decide (v6_2.2.2.2.2.1 < (Nat.cast ((List.length v6_2.1)) : Int))) then
grd (decide (0 ≤ v6_2.2.2.2.2.1)) <|
Option.bind (v6_2.1)[(Int.toNat v6_2.2.2.2.2.1)]? fun e7 =>
grd (CV.isI .u8 e7) <|
grd (decide ((v6_2.2.2.2.1 + (List.length (List.take 1 (List.drop 0 [(CV.int .u8 (CV.toI e7))])))) * 1 ≤ 140737488355328)) <|
rec1 (v6_2.1, v6_2.2.1, v6_2.2.2.1, (v6_2.2.2.2.1 + (List.length (List.take 1 (List.drop 0 [(CV.int .u8 (CV.toI e7))])))), (IntKind.wrap .i64 (v6_2.2.2.2.2.1 + 1)), ((List.take v6_2.2.2.2.1 v6_2.2.2.2.2.2) ++ (List.take 1 (List.drop 0 [(CV.int .u8 (CV.toI e7))]))))
else
(bif ((Nat.cast (v6_2.2.2.2.1) : Int) == 0) then
(bif (decide (v6_2.2.1 > 0)) then
K (0, false, false, (List.take 0 []))
else
f14_J1 R_f25 k K v6_2 (()))
else
f14_J1 R_f25 k K v6_2 (())))
else
(bif ((Nat.cast (v6_2.2.2.2.1) : Int) == 0) then
(bif (decide (v6_2.2.1 > 0)) then
K (0, false, false, (List.take 0 []))
else
f14_J2 R_f25 k K v6_2 (()))
else
f14_J2 R_f25 k K v6_2 (())))
def f14_L1 {X : Type} (R_f25 : f25_R) (k : Nat) (K : Nat × Bool × Bool × (List CV) → Option X)  (rec1 : (List CV) × Int × Int × Nat × Int × (List CV) → Option X) (v : (List CV) × Int × Int × Nat × Int × (List CV)) : Option X := f14_T1 R_f25 k K   rec1 v
set_option maxRecDepth 100000 in
theorem f14_L1_ev {X : Type} (R_f25 : f25_R) (hR_f25 : AnsOk Try.prog 25 (f25_cOf R_f25)) (k : Nat) (K : Out → Option X)  (r1 : St → Option X) (v : (List CV) × Int × Int × Nat × Int × (List CV)) : loopB (f14_cx R_f25 hR_f25) k [.r, .r, .r, .l, .r, .b] (Try.f14.body.getD .skip) (retK (f14_cx R_f25 hR_f25) [⟨0, [0], some [0, 2000]⟩] Try.f14.results.toList K) [] r1 (f14_S1 v) = f14_T1 R_f25 k (fun u => K (f14_out u))   (fun v => r1 (f14_S1 v)) v := by kernel_rfl
theorem f14_L1_it {X : Type} (R_f25 : f25_R) (hR_f25 : AnsOk Try.prog 25 (f25_cOf R_f25)) (k : Nat) (K : Out → Option X)  : (fun v => iter (loopB (f14_cx R_f25 hR_f25) k [.r, .r, .r, .l, .r, .b] (Try.f14.body.getD .skip) (retK (f14_cx R_f25 hR_f25) [⟨0, [0], some [0, 2000]⟩] Try.f14.results.toList K) []) k (f14_S1 v)) = iterV (f14_L1 R_f25 k (fun u => K (f14_out u)) ) k :=
  iter_map (fun r1 v => (f14_L1_ev R_f25 hR_f25 k K  r1 v).trans rfl) k
def f14_T {X : Type} (R_f25 : f25_R) (k : Nat) (K : Nat × Bool × Bool × (List CV) → Option X) (loop1 : (List CV) × Int × Int × Nat × Int × (List CV) → Option X) (x0 : List CV) (x1 : Int) (x2 : Int) : Option X :=
R_f25 _ (fun u2 =>
(bif (!u2) then
K (0, false, false, (List.take 0 []))
else
loop1 (x0, x1, x2, 0, (IntKind.wrap .i64 (x1 * x2)), []))) (x1) (x2)
/-- "outpost/outpostref10.Cut" -/
def f14_A (R_f25 : f25_R) (k : Nat) : f14_R := fun X K x0 x1 x2 => f14_T R_f25 k K (iterV (f14_L1 R_f25 k K) k) x0 x1 x2
set_option maxRecDepth 100000 in
theorem f14_ev' {X : Type} (R_f25 : f25_R) (hR_f25 : AnsOk Try.prog 25 (f25_cOf R_f25)) (k : Nat) (K : Out → Option X) (x0 : List CV) (x1 : Int) (x2 : Int) : evFn (f14_cx R_f25 hR_f25) [⟨0, [0], some [0, 2000]⟩] k Try.f14.ntmps Try.f14.results.toList (Try.f14.body.getD .skip) [(.sl false none x0), (.v (CV.int .i64 x1)), (.v (CV.int .i64 x2))] [] K = f14_T R_f25 k (fun u => K (f14_out u)) (fun v => iter (loopB (f14_cx R_f25 hR_f25) k [.r, .r, .r, .l, .r, .b] (Try.f14.body.getD .skip) (retK (f14_cx R_f25 hR_f25) [⟨0, [0], some [0, 2000]⟩] Try.f14.results.toList K) []) k (f14_S1 v)) x0 x1 x2 := by kernel_rfl
theorem f14_ev {X : Type} (R_f25 : f25_R) (hR_f25 : AnsOk Try.prog 25 (f25_cOf R_f25)) (k : Nat) (K : Out → Option X) (x0 : List CV) (x1 : Int) (x2 : Int) : evFn (f14_cx R_f25 hR_f25) [⟨0, [0], some [0, 2000]⟩] k Try.f14.ntmps Try.f14.results.toList (Try.f14.body.getD .skip) [(.sl false none x0), (.v (CV.int .i64 x1)), (.v (CV.int .i64 x2))] [] K = f14_A R_f25 k X (fun u => K (f14_out u)) x0 x1 x2 := (f14_ev' R_f25 hR_f25 k K x0 x1 x2).trans (by rw [f14_L1_it R_f25 hR_f25 k K]; rfl)
theorem f14_okA (R_f25 : f25_R) (hR_f25 : AnsOk Try.prog 25 (f25_cOf R_f25)) (k : Nat) : AnsOk Try.prog 14 (f14_cOf (f14_A R_f25 k)) := by
  intro X xs ns K x h
  unfold f14_cOf at h ⊢
  split at h
  · exact ans_main S (f14_Cok R_f25 hR_f25) Try.func14 (ent_of Try.func14 (by kernel_rfl) rfl) rfl (fun X K => f14_ev R_f25 hR_f25 k K _ _ _) h
  · cases h
/-- "outpost/outpostref10.Cut" -/
def f14 {X : Type} (k : Nat) (K : Nat × Bool × Bool × (List CV) → Option X) (x0 : List CV) (x1 : Int) (x2 : Int) : Option X := f14_A (fun X => @f25 X k) k X K x0 x1 x2
theorem f14_ok (k : Nat) : AnsOk Try.prog 14 (f14_cOf (fun X => @f14 X k)) := f14_okA (fun X => @f25 X k) (f25_ok k) k
abbrev f15_R : Type 1 := (X : Type) → (Bool → Option X) → (List CV) → (List CV) → Option X
def f15_out (u : Bool) : Out := ⟨(.v (CV.bool u)), []⟩
def f15_cOf (R : f15_R) : FnC := fun X xs ns K => match xs, ns with
  | [(.sl false none x0), (.sl false none x1)], [] => R X (fun u => K (f15_out u)) x0 x1
  | _, _ => none
def f15_plan : Nat → Option (List Nat × List Wk)
  | 0 => some ([0, 1], [])
  | 1 => some ([0, 1], [])
  | 2 => some ([], [])
  | 3 => some ([0, 1], [])
  | 4 => some ([0, 1, 5], [])
  | 5 => some ([0, 1, 5], [])
  | 6 => some ([0, 1, 5], [])
  | 7 => some ([], [])
  | 8 => some ([], [])
  | _ => none
def f15_C : Fns := noC
theorem f15_Cok : CsOk Try.prog (f15_C) := noC_ok
def f15_cx : Cx := mkCx (tabOf rows) (f15_C) md (cmpIn cmps) f15_plan (f15_Cok)
def f15_S1 (v : (List CV) × (List CV) × Int) : St := ⟨[(.sl false none v.1), (.sl false none v.2.1), .undef, .undef, .undef, (.v (CV.int .i64 v.2.2)), .undef, .undef, .undef, .undef, .undef, .undef, .undef, .undef, .undef, .undef, .undef, .undef, .undef, .undef, .undef, .undef, .undef, .undef, .undef, .undef], []⟩
def f15_T1 {X : Type} (k : Nat) (K : Bool → Option X)   (rec1 : (List CV) × (List CV) × Int → Option X) (v5_0 : (List CV) × (List CV) × Int) : Option X :=
(bif (decide (v5_0.2.2 < (Nat.cast ((List.length v5_0.1)) : Int))) then
grd (decide (0 ≤ v5_0.2.2)) <|
Option.bind (v5_0.1)[(Int.toNat v5_0.2.2)]? fun e8 =>
grd (CV.isI .u8 e8) <|
grd (decide (0 ≤ v5_0.2.2)) <|
Option.bind (v5_0.2.1)[(Int.toNat v5_0.2.2)]? fun e9 =>
grd (CV.isI .u8 e9) <|
(bif ((CV.toI e8) != (CV.toI e9)) then
K (false)
else
rec1 (v5_0.1, v5_0.2.1, (IntKind.wrap .i64 (v5_0.2.2 + 1))))
else
K (true))
def f15_L1 {X : Type} (k : Nat) (K : Bool → Option X)  (rec1 : (List CV) × (List CV) × Int → Option X) (v : (List CV) × (List CV) × Int) : Option X := f15_T1 k K   rec1 v
set_option maxRecDepth 100000 in
theorem f15_L1_ev {X : Type} (k : Nat) (K : Out → Option X)  (r1 : St → Option X) (v : (List CV) × (List CV) × Int) : loopB (f15_cx) k [.r, .r, .l, .r, .b] (Try.f15.body.getD .skip) (retK (f15_cx) [] Try.f15.results.toList K) [] r1 (f15_S1 v) = f15_T1 k (fun u => K (f15_out u))   (fun v => r1 (f15_S1 v)) v := by kernel_rfl
theorem f15_L1_it {X : Type} (k : Nat) (K : Out → Option X)  : (fun v => iter (loopB (f15_cx) k [.r, .r, .l, .r, .b] (Try.f15.body.getD .skip) (retK (f15_cx) [] Try.f15.results.toList K) []) k (f15_S1 v)) = iterV (f15_L1 k (fun u => K (f15_out u)) ) k :=
  iter_map (fun r1 v => (f15_L1_ev k K  r1 v).trans rfl) k
def f15_T {X : Type} (k : Nat) (K : Bool → Option X) (loop1 : (List CV) × (List CV) × Int → Option X) (x0 : List CV) (x1 : List CV) : Option X :=
(bif ((Nat.cast ((List.length x0)) : Int) != (Nat.cast ((List.length x1)) : Int)) then
K (false)
else
loop1 (x0, x1, 0))
/-- "outpost/outpostref01.Same" -/
def f15_A (k : Nat) : f15_R := fun X K x0 x1 => f15_T k K (iterV (f15_L1 k K) k) x0 x1
set_option maxRecDepth 100000 in
theorem f15_ev' {X : Type} (k : Nat) (K : Out → Option X) (x0 : List CV) (x1 : List CV) : evFn (f15_cx) [] k Try.f15.ntmps Try.f15.results.toList (Try.f15.body.getD .skip) [(.sl false none x0), (.sl false none x1)] [] K = f15_T k (fun u => K (f15_out u)) (fun v => iter (loopB (f15_cx) k [.r, .r, .l, .r, .b] (Try.f15.body.getD .skip) (retK (f15_cx) [] Try.f15.results.toList K) []) k (f15_S1 v)) x0 x1 := by kernel_rfl
theorem f15_ev {X : Type} (k : Nat) (K : Out → Option X) (x0 : List CV) (x1 : List CV) : evFn (f15_cx) [] k Try.f15.ntmps Try.f15.results.toList (Try.f15.body.getD .skip) [(.sl false none x0), (.sl false none x1)] [] K = f15_A k X (fun u => K (f15_out u)) x0 x1 := (f15_ev' k K x0 x1).trans (by rw [f15_L1_it k K]; rfl)
theorem f15_okA (k : Nat) : AnsOk Try.prog 15 (f15_cOf (f15_A k)) := by
  intro X xs ns K x h
  unfold f15_cOf at h ⊢
  split at h
  · exact ans_main S (f15_Cok) Try.func15 (ent_of Try.func15 (by kernel_rfl) rfl) rfl (fun X K => f15_ev k K _ _) h
  · cases h
/-- "outpost/outpostref01.Same" -/
def f15 {X : Type} (k : Nat) (K : Bool → Option X) (x0 : List CV) (x1 : List CV) : Option X := f15_A k X K x0 x1
theorem f15_ok (k : Nat) : AnsOk Try.prog 15 (f15_cOf (fun X => @f15 X k)) := f15_okA k
abbrev f3_R : Type 1 := (X : Type) → (Bool → Option X) → CV → (List CV) → (List CV) → Option X
def f3_out (u : Bool) : Out := ⟨(.v (CV.bool u)), []⟩
def f3_cOf (R : f3_R) : FnC := fun X xs ns K => match xs, ns with
  | [(.v x0), (.sl true none x1), (.sl true none x2)], [] => R X (fun u => K (f3_out u)) x0 x1 x2
  | _, _ => none
def f3_plan : Nat → Option (List Nat × List Wk)
  | 0 => some ([0, 1, 2], [])
  | 1 => some ([1, 2, 3], [])
  | 2 => some ([], [])
  | 3 => some ([1, 2, 3], [])
  | 4 => some ([], [])
  | 5 => some ([1, 2, 3], [])
  | 6 => some ([1, 2, 3, 7, 8], [])
  | 7 => some ([1, 2, 3, 7, 8, 9, 10], [])
  | 8 => some ([1, 2, 3, 7, 8, 9, 10, 11, 12], [])
  | 9 => some ([2, 3, 7, 8, 9, 10, 11, 12, 13, 14], [])
  | 10 => some ([2, 3, 7, 8, 9, 10, 11, 12, 13, 14, 15, 16, 17], [])
  | 11 => some ([7, 8, 9, 10, 11, 12, 13, 14, 15, 16, 17, 18, 19, 20], [])
  | _ => none
def f3_C (R_f7 : f7_R) (R_f8 : f8_R) (R_f10 : f10_R) (R_f9 : f9_R) (R_f11 : f11_R) (R_f12 : f12_R) (R_f13 : f13_R) (R_f14 : f14_R) (R_f15 : f15_R) : Fns := (orC 7 (f7_cOf R_f7) (orC 8 (f8_cOf R_f8) (orC 9 (f9_cOf R_f9) (orC 10 (f10_cOf R_f10) (orC 11 (f11_cOf R_f11) (orC 12 (f12_cOf R_f12) (orC 13 (f13_cOf R_f13) (orC 14 (f14_cOf R_f14) (orC 15 (f15_cOf R_f15) noC)))))))))
theorem f3_Cok (R_f7 : f7_R) (R_f8 : f8_R) (R_f10 : f10_R) (R_f9 : f9_R) (R_f11 : f11_R) (R_f12 : f12_R) (R_f13 : f13_R) (R_f14 : f14_R) (R_f15 : f15_R) (hR_f7 : AnsOk Try.prog 7 (f7_cOf R_f7)) (hR_f8 : AnsOk Try.prog 8 (f8_cOf R_f8)) (hR_f10 : AnsOk Try.prog 10 (f10_cOf R_f10)) (hR_f9 : AnsOk Try.prog 9 (f9_cOf R_f9)) (hR_f11 : AnsOk Try.prog 11 (f11_cOf R_f11)) (hR_f12 : AnsOk Try.prog 12 (f12_cOf R_f12)) (hR_f13 : AnsOk Try.prog 13 (f13_cOf R_f13)) (hR_f14 : AnsOk Try.prog 14 (f14_cOf R_f14)) (hR_f15 : AnsOk Try.prog 15 (f15_cOf R_f15)) : CsOk Try.prog (f3_C R_f7 R_f8 R_f10 R_f9 R_f11 R_f12 R_f13 R_f14 R_f15) := (orC_ok hR_f7 (orC_ok hR_f8 (orC_ok hR_f9 (orC_ok hR_f10 (orC_ok hR_f11 (orC_ok hR_f12 (orC_ok hR_f13 (orC_ok hR_f14 (orC_ok hR_f15 noC_ok)))))))))
def f3_cx (R_f7 : f7_R) (R_f8 : f8_R) (R_f10 : f10_R) (R_f9 : f9_R) (R_f11 : f11_R) (R_f12 : f12_R) (R_f13 : f13_R) (R_f14 : f14_R) (R_f15 : f15_R) (hR_f7 : AnsOk Try.prog 7 (f7_cOf R_f7)) (hR_f8 : AnsOk Try.prog 8 (f8_cOf R_f8)) (hR_f10 : AnsOk Try.prog 10 (f10_cOf R_f10)) (hR_f9 : AnsOk Try.prog 9 (f9_cOf R_f9)) (hR_f11 : AnsOk Try.prog 11 (f11_cOf R_f11)) (hR_f12 : AnsOk Try.prog 12 (f12_cOf R_f12)) (hR_f13 : AnsOk Try.prog 13 (f13_cOf R_f13)) (hR_f14 : AnsOk Try.prog 14 (f14_cOf R_f14)) (hR_f15 : AnsOk Try.prog 15 (f15_cOf R_f15)) : Cx := mkCx (tabOf rows) (f3_C R_f7 R_f8 R_f10 R_f9 R_f11 R_f12 R_f13 R_f14 R_f15) md (cmpIn cmps) f3_plan (f3_Cok R_f7 R_f8 R_f10 R_f9 R_f11 R_f12 R_f13 R_f14 R_f15 hR_f7 hR_f8 hR_f10 hR_f9 hR_f11 hR_f12 hR_f13 hR_f14 hR_f15)
def f3_T {X : Type} (R_f7 : f7_R) (R_f8 : f8_R) (R_f10 : f10_R) (R_f9 : f9_R) (R_f11 : f11_R) (R_f12 : f12_R) (R_f13 : f13_R) (R_f14 : f14_R) (R_f15 : f15_R) (k : Nat) (K : Bool → Option X)  (x0 : CV) (x1 : List CV) (x2 : List CV) : Option X :=
grd (CV.isA 3 x0) <|
grd (CV.isI .i64 (CV.cellD 0 x0)) <|
grd (CV.isB (CV.cellD 1 x0)) <|
grd (CV.isI .i64 (CV.cellD 2 x0)) <|
R_f7 _ (fun u2 =>
(bif (!u2) then
K (false)
else
(bif (decide ((Nat.cast ((List.length x1)) : Int) > 100)) then
K (true)
else
(bif (decide ((Nat.cast ((List.length x2)) : Int) > 4000)) then
K (true)
else
R_f8 _ (fun u3 =>
R_f10 _ (fun u4 =>
R_f9 _ (fun u5 =>
R_f11 _ (fun u6 =>
grd (CV.isA 3 u6.1) <|
grd (CV.isI .i64 (CV.cellD 0 u6.1)) <|
grd (CV.isB (CV.cellD 1 u6.1)) <|
grd (CV.isI .i64 (CV.cellD 2 u6.1)) <|
R_f12 _ (fun u7 =>
grd (CV.isA 3 u7.1) <|
grd (CV.isI .i64 (CV.cellD 0 u7.1)) <|
grd (CV.isB (CV.cellD 1 u7.1)) <|
grd (CV.isI .i64 (CV.cellD 2 u7.1)) <|
R_f13 _ (fun u8 =>
R_f14 _ (fun u9 =>
(bif (u3.2.1 == u5.2.1) then
R_f15 _ (fun u10 =>
(bif u10 then
(bif (u6.2 == u7.2) then
R_f10 _ (fun u11 =>
grd (CV.isA 3 u11) <|
grd (CV.isI .i64 (CV.cellD 0 u11)) <|
grd (CV.isB (CV.cellD 1 u11)) <|
grd (CV.isI .i64 (CV.cellD 2 u11)) <|
(bif (((CV.toI (CV.cellD 0 u11)) == (CV.toI (CV.cellD 0 u7.1))) && (((CV.toB (CV.cellD 1 u11)) == (CV.toB (CV.cellD 1 u7.1))) && (((CV.toI (CV.cellD 2 u11)) == (CV.toI (CV.cellD 2 u7.1))) && true))) then
R_f15 _ (fun u12 =>
(bif u12 then
(bif (u8.2.1 == u9.2.1) then
K ((u8.2.2.1 == u9.2.2.1))
else
K (false))
else
K (false))) ((List.take u8.1 (List.drop 0 u8.2.2.2))) ((List.take u9.1 (List.drop 0 u9.2.2.2)))
else
K (false))) ((CV.agg [(CV.int .i64 (CV.toI (CV.cellD 0 u6.1))), (CV.bool (CV.toB (CV.cellD 1 u6.1))), (CV.int .i64 (CV.toI (CV.cellD 2 u6.1)))]))
else
K (false))
else
K (false))) ((List.take u3.1 (List.drop 0 u3.2.2))) ((List.take u5.1 (List.drop 0 u5.2.2)))
else
K (false))) (x2) ((CV.toI (CV.cellD 0 x0))) ((CV.toI (CV.cellD 2 x0)))) (x2) ((CV.toI (CV.cellD 0 x0))) ((CV.toI (CV.cellD 2 x0)))) (x1)) (x1)) (u4)) ((CV.agg [(CV.int .i64 (CV.toI (CV.cellD 0 x0))), (CV.bool (CV.toB (CV.cellD 1 x0))), (CV.int .i64 (CV.toI (CV.cellD 2 x0)))]))) ((CV.agg [(CV.int .i64 (CV.toI (CV.cellD 0 x0))), (CV.bool (CV.toB (CV.cellD 1 x0))), (CV.int .i64 (CV.toI (CV.cellD 2 x0)))])))))) 
/-- "outpost/outpostlaw10.BlockValues" -/
def f3_A (R_f7 : f7_R) (R_f8 : f8_R) (R_f10 : f10_R) (R_f9 : f9_R) (R_f11 : f11_R) (R_f12 : f12_R) (R_f13 : f13_R) (R_f14 : f14_R) (R_f15 : f15_R) (k : Nat) : f3_R := fun X K x0 x1 x2 => f3_T R_f7 R_f8 R_f10 R_f9 R_f11 R_f12 R_f13 R_f14 R_f15 k K  x0 x1 x2
set_option maxRecDepth 100000 in
theorem f3_ev' {X : Type} (R_f7 : f7_R) (R_f8 : f8_R) (R_f10 : f10_R) (R_f9 : f9_R) (R_f11 : f11_R) (R_f12 : f12_R) (R_f13 : f13_R) (R_f14 : f14_R) (R_f15 : f15_R) (hR_f7 : AnsOk Try.prog 7 (f7_cOf R_f7)) (hR_f8 : AnsOk Try.prog 8 (f8_cOf R_f8)) (hR_f10 : AnsOk Try.prog 10 (f10_cOf R_f10)) (hR_f9 : AnsOk Try.prog 9 (f9_cOf R_f9)) (hR_f11 : AnsOk Try.prog 11 (f11_cOf R_f11)) (hR_f12 : AnsOk Try.prog 12 (f12_cOf R_f12)) (hR_f13 : AnsOk Try.prog 13 (f13_cOf R_f13)) (hR_f14 : AnsOk Try.prog 14 (f14_cOf R_f14)) (hR_f15 : AnsOk Try.prog 15 (f15_cOf R_f15)) (k : Nat) (K : Out → Option X) (x0 : CV) (x1 : List CV) (x2 : List CV) : evFn (f3_cx R_f7 R_f8 R_f10 R_f9 R_f11 R_f12 R_f13 R_f14 R_f15 hR_f7 hR_f8 hR_f10 hR_f9 hR_f11 hR_f12 hR_f13 hR_f14 hR_f15) [] k Try.f3.ntmps Try.f3.results.toList (Try.f3.body.getD .skip) [(.v x0), (.sl true none x1), (.sl true none x2)] [] K = f3_T R_f7 R_f8 R_f10 R_f9 R_f11 R_f12 R_f13 R_f14 R_f15 k (fun u => K (f3_out u)) x0 x1 x2 := by kernel_rfl
theorem f3_ev {X : Type} (R_f7 : f7_R) (R_f8 : f8_R) (R_f10 : f10_R) (R_f9 : f9_R) (R_f11 : f11_R) (R_f12 : f12_R) (R_f13 : f13_R) (R_f14 : f14_R) (R_f15 : f15_R) (hR_f7 : AnsOk Try.prog 7 (f7_cOf R_f7)) (hR_f8 : AnsOk Try.prog 8 (f8_cOf R_f8)) (hR_f10 : AnsOk Try.prog 10 (f10_cOf R_f10)) (hR_f9 : AnsOk Try.prog 9 (f9_cOf R_f9)) (hR_f11 : AnsOk Try.prog 11 (f11_cOf R_f11)) (hR_f12 : AnsOk Try.prog 12 (f12_cOf R_f12)) (hR_f13 : AnsOk Try.prog 13 (f13_cOf R_f13)) (hR_f14 : AnsOk Try.prog 14 (f14_cOf R_f14)) (hR_f15 : AnsOk Try.prog 15 (f15_cOf R_f15)) (k : Nat) (K : Out → Option X) (x0 : CV) (x1 : List CV) (x2 : List CV) : evFn (f3_cx R_f7 R_f8 R_f10 R_f9 R_f11 R_f12 R_f13 R_f14 R_f15 hR_f7 hR_f8 hR_f10 hR_f9 hR_f11 hR_f12 hR_f13 hR_f14 hR_f15) [] k Try.f3.ntmps Try.f3.results.toList (Try.f3.body.getD .skip) [(.v x0), (.sl true none x1), (.sl true none x2)] [] K = f3_A R_f7 R_f8 R_f10 R_f9 R_f11 R_f12 R_f13 R_f14 R_f15 k X (fun u => K (f3_out u)) x0 x1 x2 := (f3_ev' R_f7 R_f8 R_f10 R_f9 R_f11 R_f12 R_f13 R_f14 R_f15 hR_f7 hR_f8 hR_f10 hR_f9 hR_f11 hR_f12 hR_f13 hR_f14 hR_f15 k K x0 x1 x2).trans rfl
theorem f3_okA (R_f7 : f7_R) (R_f8 : f8_R) (R_f10 : f10_R) (R_f9 : f9_R) (R_f11 : f11_R) (R_f12 : f12_R) (R_f13 : f13_R) (R_f14 : f14_R) (R_f15 : f15_R) (hR_f7 : AnsOk Try.prog 7 (f7_cOf R_f7)) (hR_f8 : AnsOk Try.prog 8 (f8_cOf R_f8)) (hR_f10 : AnsOk Try.prog 10 (f10_cOf R_f10)) (hR_f9 : AnsOk Try.prog 9 (f9_cOf R_f9)) (hR_f11 : AnsOk Try.prog 11 (f11_cOf R_f11)) (hR_f12 : AnsOk Try.prog 12 (f12_cOf R_f12)) (hR_f13 : AnsOk Try.prog 13 (f13_cOf R_f13)) (hR_f14 : AnsOk Try.prog 14 (f14_cOf R_f14)) (hR_f15 : AnsOk Try.prog 15 (f15_cOf R_f15)) (k : Nat) : AnsOk Try.prog 3 (f3_cOf (f3_A R_f7 R_f8 R_f10 R_f9 R_f11 R_f12 R_f13 R_f14 R_f15 k)) := by
  intro X xs ns K x h
  unfold f3_cOf at h ⊢
  split at h
  · exact ans_main S (f3_Cok R_f7 R_f8 R_f10 R_f9 R_f11 R_f12 R_f13 R_f14 R_f15 hR_f7 hR_f8 hR_f10 hR_f9 hR_f11 hR_f12 hR_f13 hR_f14 hR_f15) Try.func3 (ent_of Try.func3 (by kernel_rfl) rfl) rfl (fun X K => f3_ev R_f7 R_f8 R_f10 R_f9 R_f11 R_f12 R_f13 R_f14 R_f15 hR_f7 hR_f8 hR_f10 hR_f9 hR_f11 hR_f12 hR_f13 hR_f14 hR_f15 k K _ _ _) h
  · cases h
/-- "outpost/outpostlaw10.BlockValues" -/
def f3 {X : Type} (k : Nat) (K : Bool → Option X) (x0 : CV) (x1 : List CV) (x2 : List CV) : Option X := f3_A (fun X => @f7 X k) (fun X => @f8 X k) (fun X => @f10 X k) (fun X => @f9 X k) (fun X => @f11 X k) (fun X => @f12 X k) (fun X => @f13 X k) (fun X => @f14 X k) (fun X => @f15 X k) k X K x0 x1 x2
theorem f3_ok (k : Nat) : AnsOk Try.prog 3 (f3_cOf (fun X => @f3 X k)) := f3_okA (fun X => @f7 X k) (fun X => @f8 X k) (fun X => @f10 X k) (fun X => @f9 X k) (fun X => @f11 X k) (fun X => @f12 X k) (fun X => @f13 X k) (fun X => @f14 X k) (fun X => @f15 X k) (f7_ok k) (f8_ok k) (f10_ok k) (f9_ok k) (f11_ok k) (f12_ok k) (f13_ok k) (f14_ok k) (f15_ok k) k
abbrev f17_R : Type 1 := (X : Type) → (Int × (List CV) → Option X) → Int → Option X
def f17_out (u : Int × (List CV)) : Out := ⟨(.agg [(.v (CV.int .i64 u.1)), (.osl [1, 2000] none 0 0), (.v (CV.bool false))]), [([1, 2000], (.row false none u.2))]⟩
def f17_cOf (R : f17_R) : FnC := fun X xs ns K => match xs, ns with
  | [(.v (CV.int .i64 x0))], [] => R X (fun u => K (f17_out u)) x0
  | _, _ => none
def f17_plan : Nat → Option (List Nat × List Wk)
  | 0 => some ([0], [])
  | 1 => some ([0, 2], [])
  | 2 => some ([2], [])
  | 3 => some ([0, 2], [])
  | 4 => some ([2], [])
  | 5 => some ([0, 2], [])
  | _ => none
def f17_C : Fns := noC
theorem f17_Cok : CsOk Try.prog (f17_C) := noC_ok
def f17_cx : Cx := mkCx (tabOf rows) (f17_C) md (cmpIn cmps) f17_plan (f17_Cok)
def f17_J1 {X : Type} (k : Nat) (K : Int × (List CV) → Option X)  (v2 : Int) : Option X :=
K (v2, (List.take 0 []))
def f17_J2 {X : Type} (k : Nat) (K : Int × (List CV) → Option X)  (v1 : Int) : Option X :=
(bif (decide (v1 > 1048576)) then
f17_J1 k K (1048576)
else
f17_J1 k K (v1))
def f17_T {X : Type} (k : Nat) (K : Int × (List CV) → Option X)  (x0 : Int) : Option X :=
(bif (decide (x0 < 0)) then
f17_J2 k K (0)
else
f17_J2 k K (x0))
/-- "outpost/outpostref10.New" -/
def f17_A (k : Nat) : f17_R := fun X K x0 => f17_T k K  x0
set_option maxRecDepth 100000 in
theorem f17_ev' {X : Type} (k : Nat) (K : Out → Option X) (x0 : Int) : evFn (f17_cx) [] k Try.f17.ntmps Try.f17.results.toList (Try.f17.body.getD .skip) [(.v (CV.int .i64 x0))] [] K = f17_T k (fun u => K (f17_out u)) x0 := by kernel_rfl
theorem f17_ev {X : Type} (k : Nat) (K : Out → Option X) (x0 : Int) : evFn (f17_cx) [] k Try.f17.ntmps Try.f17.results.toList (Try.f17.body.getD .skip) [(.v (CV.int .i64 x0))] [] K = f17_A k X (fun u => K (f17_out u)) x0 := (f17_ev' k K x0).trans rfl
theorem f17_okA (k : Nat) : AnsOk Try.prog 17 (f17_cOf (f17_A k)) := by
  intro X xs ns K x h
  unfold f17_cOf at h ⊢
  split at h
  · exact ans_main S (f17_Cok) Try.func17 (ent_of Try.func17 (by kernel_rfl) rfl) rfl (fun X K => f17_ev k K _) h
  · cases h
/-- "outpost/outpostref10.New" -/
def f17 {X : Type} (k : Nat) (K : Int × (List CV) → Option X) (x0 : Int) : Option X := f17_A k X K x0
theorem f17_ok (k : Nat) : AnsOk Try.prog 17 (f17_cOf (fun X => @f17 X k)) := f17_okA k
abbrev f32_R : Type 1 := (X : Type) → (Nat × (List CV) → Option X) → (List CV) → Option X
def f32_out (u : Nat × (List CV)) : Out := ⟨(.osl [2000] none 0 u.1), [([2000], (.row false none u.2))]⟩
def f32_cOf (R : f32_R) : FnC := fun X xs ns K => match xs, ns with
  | [(.sl false none x0)], [] => R X (fun u => K (f32_out u)) x0
  | _, _ => none
def f32_plan : Nat → Option (List Nat × List Wk)
  | 0 => some ([0], [])
  | 1 => some ([0], [])
  | 2 => some ([0, 3], [])
  | 3 => some ([0, 3, 4], [])
  | 4 => some ([0, 3, 4], [])
  | 5 => some ([0, 3, 4], [])
  | 6 => some ([0, 3, 4, 5], [])
  | 7 => some ([0, 3, 4, 5], [])
  | 8 => some ([0, 3, 4, 5], [])
  | 9 => some ([3], [])
  | _ => none
def f32_C : Fns := noC
theorem f32_Cok : CsOk Try.prog (f32_C) := noC_ok
def f32_cx : Cx := mkCx (tabOf rows) (f32_C) md (cmpIn cmps) f32_plan (f32_Cok)
def f32_S1 (v : (List CV) × Nat × Int × (List CV)) : St := ⟨[(.sl false none v.1), .undef, .undef, (.osl [3] none 0 v.2.1), (.v (CV.int .i64 v.2.2.1)), .undef, .undef, .undef, .undef, .undef, .undef, .undef, .undef, .undef, .undef, .undef, .undef, .undef, .undef, .undef, .undef, .undef, .undef, .undef, .undef, .undef, .undef, .undef, .undef, .undef, .undef, .undef, .undef], [([3], (.row false none v.2.2.2))]⟩
def f32_S2 (v : (List CV) × Nat × Int × Int × (List CV)) : St := ⟨[(.sl false none v.1), .undef, .undef, (.osl [3] none 0 v.2.1), (.v (CV.int .i64 v.2.2.1)), (.v (CV.int .i64 v.2.2.2.1)), .undef, .undef, .undef, .undef, .undef, .undef, .undef, .undef, .undef, .undef, .undef, .undef, .undef, .undef, .undef, .undef, .undef, .undef, .undef, .undef, .undef, .undef, .undef, .undef, .undef, .undef, .undef], [([3], (.row false none v.2.2.2.2))]⟩
def f32_T2 {X : Type} (k : Nat) (K : Nat × (List CV) → Option X) (rec1 : (List CV) × Nat × Int × (List CV) → Option X)  (rec2 : (List CV) × Nat × Int × Int × (List CV) → Option X) (v11_14 : (List CV) × Nat × Int × Int × (List CV)) : Option X :=
grd (decide (0 ≤ v11_14.2.2.1)) <|
Option.bind (v11_14.1)[(Int.toNat v11_14.2.2.1)]? fun e23 =>
grd (CV.isL none e23) <|
(bif (decide (v11_14.2.2.2.1 < (Nat.cast ((List.length (CV.toL e23))) : Int))) then
grd (decide (0 ≤ v11_14.2.2.1)) <|
Option.bind (v11_14.1)[(Int.toNat v11_14.2.2.1)]? fun e26 =>
grd (CV.isL none e26) <|
grd (decide (0 ≤ v11_14.2.2.2.1)) <|
Option.bind ((CV.toL e26))[(Int.toNat v11_14.2.2.2.1)]? fun e27 =>
grd (CV.isI .u8 e27) <|
grd (decide ((v11_14.2.1 + (List.length (List.take 1 (List.drop 0 [(CV.int .u8 (CV.toI e27))])))) * 1 ≤ 140737488355328)) <|
rec2 (v11_14.1, (v11_14.2.1 + (List.length (List.take 1 (List.drop 0 [(CV.int .u8 (CV.toI e27))])))), v11_14.2.2.1, (IntKind.wrap .i64 (v11_14.2.2.2.1 + 1)), ((List.take v11_14.2.1 v11_14.2.2.2.2) ++ (List.take 1 (List.drop 0 [(CV.int .u8 (CV.toI e27))]))))
else
rec1 (v11_14.1, v11_14.2.1, (IntKind.wrap .i64 (v11_14.2.2.1 + 1)), v11_14.2.2.2.2))
def f32_L2 {X : Type} (k : Nat) (K : Nat × (List CV) → Option X) (rec1 : (List CV) × Nat × Int × (List CV) → Option X) (rec2 : (List CV) × Nat × Int × Int × (List CV) → Option X) (v : (List CV) × Nat × Int × Int × (List CV)) : Option X := f32_T2 k K rec1  rec2 v
set_option maxRecDepth 100000 in
theorem f32_L2_ev {X : Type} (k : Nat) (K : Out → Option X) (r1 : St → Option X) (r2 : St → Option X) (v : (List CV) × Nat × Int × Int × (List CV)) : loopB (f32_cx) k [.r, .r, .l, .r, .b, .o, .r, .l, .b, .r, .b] (Try.f32.body.getD .skip) (retK (f32_cx) [] Try.f32.results.toList K) [r1] r2 (f32_S2 v) = f32_T2 k (fun u => K (f32_out u)) (fun v => r1 (f32_S1 v))  (fun v => r2 (f32_S2 v)) v := by kernel_rfl
theorem f32_L2_it {X : Type} (k : Nat) (K : Out → Option X) (r1 : St → Option X) : (fun v => iter (loopB (f32_cx) k [.r, .r, .l, .r, .b, .o, .r, .l, .b, .r, .b] (Try.f32.body.getD .skip) (retK (f32_cx) [] Try.f32.results.toList K) [r1]) k (f32_S2 v)) = iterV (f32_L2 k (fun u => K (f32_out u)) (fun v => r1 (f32_S1 v))) k :=
  iter_map (fun r2 v => (f32_L2_ev k K r1 r2 v).trans rfl) k
def f32_T1 {X : Type} (k : Nat) (K : Nat × (List CV) → Option X)  (loop2 : (List CV) × Nat × Int × Int × (List CV) → Option X) (rec1 : (List CV) × Nat × Int × (List CV) → Option X) (v5_0 : (List CV) × Nat × Int × (List CV)) : Option X :=
(bif (decide (v5_0.2.2.1 < (Nat.cast ((List.length v5_0.1)) : Int))) then
loop2 (v5_0.1, v5_0.2.1, v5_0.2.2.1, 0, v5_0.2.2.2)
else
K (v5_0.2.1, (List.take (0 + v5_0.2.1) v5_0.2.2.2)))
def f32_L1 {X : Type} (k : Nat) (K : Nat × (List CV) → Option X)  (rec1 : (List CV) × Nat × Int × (List CV) → Option X) (v : (List CV) × Nat × Int × (List CV)) : Option X := f32_T1 k K  (iterV (f32_L2 k K rec1) k) rec1 v
set_option maxRecDepth 100000 in
theorem f32_L1_ev {X : Type} (k : Nat) (K : Out → Option X)  (r1 : St → Option X) (v : (List CV) × Nat × Int × (List CV)) : loopB (f32_cx) k [.r, .r, .l, .r, .b] (Try.f32.body.getD .skip) (retK (f32_cx) [] Try.f32.results.toList K) [] r1 (f32_S1 v) = f32_T1 k (fun u => K (f32_out u))  (fun v => iter (loopB (f32_cx) k [.r, .r, .l, .r, .b, .o, .r, .l, .b, .r, .b] (Try.f32.body.getD .skip) (retK (f32_cx) [] Try.f32.results.toList K) [r1]) k (f32_S2 v)) (fun v => r1 (f32_S1 v)) v := by kernel_rfl
theorem f32_L1_it {X : Type} (k : Nat) (K : Out → Option X)  : (fun v => iter (loopB (f32_cx) k [.r, .r, .l, .r, .b] (Try.f32.body.getD .skip) (retK (f32_cx) [] Try.f32.results.toList K) []) k (f32_S1 v)) = iterV (f32_L1 k (fun u => K (f32_out u)) ) k :=
  iter_map (fun r1 v => (f32_L1_ev k K  r1 v).trans (by rw [f32_L2_it k K r1]; rfl)) k
def f32_T {X : Type} (k : Nat) (K : Nat × (List CV) → Option X) (loop1 : (List CV) × Nat × Int × (List CV) → Option X) (x0 : List CV) : Option X :=
loop1 (x0, 0, 0, [])
/-- "outpost/outpostref01.Join" -/
def f32_A (k : Nat) : f32_R := fun X K x0 => f32_T k K (iterV (f32_L1 k K) k) x0
set_option maxRecDepth 100000 in
theorem f32_ev' {X : Type} (k : Nat) (K : Out → Option X) (x0 : List CV) : evFn (f32_cx) [] k Try.f32.ntmps Try.f32.results.toList (Try.f32.body.getD .skip) [(.sl false none x0)] [] K = f32_T k (fun u => K (f32_out u)) (fun v => iter (loopB (f32_cx) k [.r, .r, .l, .r, .b] (Try.f32.body.getD .skip) (retK (f32_cx) [] Try.f32.results.toList K) []) k (f32_S1 v)) x0 := by kernel_rfl
theorem f32_ev {X : Type} (k : Nat) (K : Out → Option X) (x0 : List CV) : evFn (f32_cx) [] k Try.f32.ntmps Try.f32.results.toList (Try.f32.body.getD .skip) [(.sl false none x0)] [] K = f32_A k X (fun u => K (f32_out u)) x0 := (f32_ev' k K x0).trans (by rw [f32_L1_it k K]; rfl)
theorem f32_okA (k : Nat) : AnsOk Try.prog 32 (f32_cOf (f32_A k)) := by
  intro X xs ns K x h
  unfold f32_cOf at h ⊢
  split at h
  · exact ans_main S (f32_Cok) Try.func32 (ent_of Try.func32 (by kernel_rfl) rfl) rfl (fun X K => f32_ev k K _) h
  · cases h
/-- "outpost/outpostref01.Join" -/
def f32 {X : Type} (k : Nat) (K : Nat × (List CV) → Option X) (x0 : List CV) : Option X := f32_A k X K x0
theorem f32_ok (k : Nat) : AnsOk Try.prog 32 (f32_cOf (fun X => @f32 X k)) := f32_okA k
abbrev f19_R : Type 1 := (X : Type) → (Int × Nat × Bool × Bool × Int × (List CV) → Option X) → CV → CV → (List CV) → Option X
def f19_out (u : Int × Nat × Bool × Bool × Int × (List CV)) : Out := ⟨(.tup [(.agg [(.v (CV.int .i64 u.1)), (.osl [1, 0, 2000] none 0 u.2.1), (.v (CV.bool u.2.2.1))]), (.v (CV.bool u.2.2.2.1)), (.v (CV.int .i64 u.2.2.2.2.1))]), [([1, 0, 2000], (.row false none u.2.2.2.2.2))]⟩
def f19_cOf (R : f19_R) : FnC := fun X xs ns K => match xs, ns with
  | [(.v x0), (.v x1), (.sl true none x2)], [] => R X (fun u => K (f19_out u)) x0 x1 x2
  | _, _ => none
def f19_plan : Nat → Option (List Nat × List Wk)
  | 0 => some ([0, 1, 2], [])
  | 1 => some ([2, 3, 4, 6], [])
  | 2 => some ([2, 3, 4, 6, 9], [])
  | 3 => some ([2, 3, 4, 6, 9], [])
  | 4 => some ([2, 3, 4, 6, 9], [])
  | 5 => some ([2, 3, 4, 6, 9], [⟨3, [1], none⟩])
  | 6 => some ([6, 9], [])
  | 7 => some ([2, 3, 4, 6, 9], [])
  | 8 => some ([6, 9], [])
  | 9 => some ([2, 3, 4, 6, 9], [])
  | 10 => some ([6, 9], [])
  | 11 => some ([2, 3, 4, 6, 9], [])
  | 12 => some ([6, 9], [])
  | 13 => some ([2, 3, 4, 6], [])
  | 14 => some ([3, 4, 6], [])
  | 15 => some ([3, 4, 6], [])
  | _ => none
def f19_C (R_f25 : f25_R) (R_f32 : f32_R) : Fns := (orC 25 (f25_cOf R_f25) (orC 32 (f32_cOf R_f32) noC))
theorem f19_Cok (R_f25 : f25_R) (R_f32 : f32_R) (hR_f25 : AnsOk Try.prog 25 (f25_cOf R_f25)) (hR_f32 : AnsOk Try.prog 32 (f32_cOf R_f32)) : CsOk Try.prog (f19_C R_f25 R_f32) := (orC_ok hR_f25 (orC_ok hR_f32 noC_ok))
def f19_cx (R_f25 : f25_R) (R_f32 : f32_R) (hR_f25 : AnsOk Try.prog 25 (f25_cOf R_f25)) (hR_f32 : AnsOk Try.prog 32 (f32_cOf R_f32)) : Cx := mkCx (tabOf rows) (f19_C R_f25 R_f32) md (cmpIn cmps) f19_plan (f19_Cok R_f25 R_f32 hR_f25 hR_f32)
def f19_J1 {X : Type} (R_f25 : f25_R) (R_f32 : f32_R) (k : Nat) (K : Int × Nat × Bool × Bool × Int × (List CV) → Option X) (v1 : (List CV) × (List CV) × Bool × Int × Bool × Int) (x0 : CV) (v4 : Unit) : Option X :=
(bif (decide ((IntKind.wrap .i64 ((Nat.cast ((List.length v1.2.1)) : Int) + (Nat.cast ((List.length v1.1)) : Int))) > (CV.toI (CV.cellD 0 x0)))) then
K ((CV.toI (CV.cellD 0 x0)), 0, false, false, 2, (List.take 0 []))
else
R_f32 _ (fun u5 =>
K ((CV.toI (CV.cellD 0 x0)), u5.1, v1.2.2.2.2.1, (!v1.2.2.2.2.1), 0, (List.take (0 + u5.1) u5.2))) ((List.take 2 (List.drop 0 [(CV.slc none v1.2.1), (CV.slc none v1.1)]))))
def f19_J2 {X : Type} (R_f25 : f25_R) (R_f32 : f32_R) (k : Nat) (K : Int × Nat × Bool × Bool × Int × (List CV) → Option X) (x0 : CV) (v1 : (List CV) × (List CV) × Bool × Int × Bool × Int) : Option X :=
R_f25 _ (fun u3 =>
(bif (!u3) then
K ((CV.toI (CV.cellD 0 x0)), 0, false, false, 1, (List.take 0 []))
else
(bif (!v1.2.2.1) then
K ((CV.toI (CV.cellD 0 x0)), 0, false, false, 4, (List.take 0 []))
else
(bif ((IntKind.wrap .i64 (v1.2.2.2.1 * v1.2.2.2.2.2)) != (Nat.cast ((List.length v1.2.1)) : Int)) then
K ((CV.toI (CV.cellD 0 x0)), 0, false, false, 4, (List.take 0 []))
else
(bif (decide ((Nat.cast ((List.length v1.1)) : Int) > v1.2.2.2.2.2)) then
K ((CV.toI (CV.cellD 0 x0)), 0, false, false, 20, (List.take 0 []))
else
(bif v1.2.2.2.2.1 then
(bif (decide ((Nat.cast ((List.length v1.1)) : Int) < v1.2.2.2.2.2)) then
K ((CV.toI (CV.cellD 0 x0)), 0, false, false, 20, (List.take 0 []))
else
f19_J1 R_f25 R_f32 k K v1 x0 (()))
else
f19_J1 R_f25 R_f32 k K v1 x0 (()))))))) (v1.2.2.2.1) (v1.2.2.2.2.2)
def f19_T {X : Type} (R_f25 : f25_R) (R_f32 : f32_R) (k : Nat) (K : Int × Nat × Bool × Bool × Int × (List CV) → Option X)  (x0 : CV) (x1 : CV) (x2 : List CV) : Option X :=
grd (CV.isA 3 x0) <|
grd (CV.isI .i64 (CV.cellD 0 x0)) <|
grd (CV.isL none (CV.cellD 1 x0)) <|
grd (CV.isB (CV.cellD 2 x0)) <|
grd (CV.isA 3 x1) <|
grd (CV.isI .i64 (CV.cellD 0 x1)) <|
grd (CV.isB (CV.cellD 1 x1)) <|
grd (CV.isI .i64 (CV.cellD 2 x1)) <|
(bif ((CV.toI (CV.cellD 0 x1)) == 0) then
f19_J2 R_f25 R_f32 k K x0 (x2, (List.take 0 (List.drop 0 [])), true, (CV.toI (CV.cellD 0 x1)), (CV.toB (CV.cellD 1 x1)), (CV.toI (CV.cellD 2 x1)))
else
f19_J2 R_f25 R_f32 k K x0 (x2, (CV.toL (CV.cellD 1 x0)), (CV.toB (CV.cellD 2 x0)), (CV.toI (CV.cellD 0 x1)), (CV.toB (CV.cellD 1 x1)), (CV.toI (CV.cellD 2 x1))))
/-- "outpost/outpostref10.Put" -/
def f19_A (R_f25 : f25_R) (R_f32 : f32_R) (k : Nat) : f19_R := fun X K x0 x1 x2 => f19_T R_f25 R_f32 k K  x0 x1 x2
set_option maxRecDepth 100000 in
theorem f19_ev' {X : Type} (R_f25 : f25_R) (R_f32 : f32_R) (hR_f25 : AnsOk Try.prog 25 (f25_cOf R_f25)) (hR_f32 : AnsOk Try.prog 32 (f32_cOf R_f32)) (k : Nat) (K : Out → Option X) (x0 : CV) (x1 : CV) (x2 : List CV) : evFn (f19_cx R_f25 R_f32 hR_f25 hR_f32) [] k Try.f19.ntmps Try.f19.results.toList (Try.f19.body.getD .skip) [(.v x0), (.v x1), (.sl true none x2)] [] K = f19_T R_f25 R_f32 k (fun u => K (f19_out u)) x0 x1 x2 := by kernel_rfl
theorem f19_ev {X : Type} (R_f25 : f25_R) (R_f32 : f32_R) (hR_f25 : AnsOk Try.prog 25 (f25_cOf R_f25)) (hR_f32 : AnsOk Try.prog 32 (f32_cOf R_f32)) (k : Nat) (K : Out → Option X) (x0 : CV) (x1 : CV) (x2 : List CV) : evFn (f19_cx R_f25 R_f32 hR_f25 hR_f32) [] k Try.f19.ntmps Try.f19.results.toList (Try.f19.body.getD .skip) [(.v x0), (.v x1), (.sl true none x2)] [] K = f19_A R_f25 R_f32 k X (fun u => K (f19_out u)) x0 x1 x2 := (f19_ev' R_f25 R_f32 hR_f25 hR_f32 k K x0 x1 x2).trans rfl
theorem f19_okA (R_f25 : f25_R) (R_f32 : f32_R) (hR_f25 : AnsOk Try.prog 25 (f25_cOf R_f25)) (hR_f32 : AnsOk Try.prog 32 (f32_cOf R_f32)) (k : Nat) : AnsOk Try.prog 19 (f19_cOf (f19_A R_f25 R_f32 k)) := by
  intro X xs ns K x h
  unfold f19_cOf at h ⊢
  split at h
  · exact ans_main S (f19_Cok R_f25 R_f32 hR_f25 hR_f32) Try.func19 (ent_of Try.func19 (by kernel_rfl) rfl) rfl (fun X K => f19_ev R_f25 R_f32 hR_f25 hR_f32 k K _ _ _) h
  · cases h
/-- "outpost/outpostref10.Put" -/
def f19 {X : Type} (k : Nat) (K : Int × Nat × Bool × Bool × Int × (List CV) → Option X) (x0 : CV) (x1 : CV) (x2 : List CV) : Option X := f19_A (fun X => @f25 X k) (fun X => @f32 X k) k X K x0 x1 x2
theorem f19_ok (k : Nat) : AnsOk Try.prog 19 (f19_cOf (fun X => @f19 X k)) := f19_okA (fun X => @f25 X k) (fun X => @f32 X k) (f25_ok k) (f32_ok k) k
abbrev f4_R : Type 1 := (X : Type) → (Bool → Option X) → Int → (List CV) → Option X
def f4_out (u : Bool) : Out := ⟨(.v (CV.bool u)), []⟩
def f4_cOf (R : f4_R) : FnC := fun X xs ns K => match xs, ns with
  | [(.v (CV.int .i64 x0)), (.sl true (some 4) x1)], [] => R X (fun u => K (f4_out u)) x0 x1
  | _, _ => none
def f4_plan : Nat → Option (List Nat × List Wk)
  | 0 => some ([0, 1], [])
  | 1 => some ([0, 1], [])
  | 2 => some ([], [])
  | 3 => some ([0, 1], [])
  | 4 => some ([0, 1, 5], [])
  | 5 => some ([0, 1, 5, 19, 20, 21], [])
  | 6 => some ([0, 1, 5, 19, 20, 21], [])
  | 7 => some ([0, 1, 5, 7, 19, 20, 21], [])
  | 8 => some ([], [])
  | 9 => some ([0, 1, 5, 7, 19, 20, 21], [])
  | 10 => some ([0, 1, 5, 19, 20, 21], [])
  | 11 => some ([0, 1], [])
  | 12 => some ([], [])
  | 13 => some ([0, 1], [])
  | 14 => some ([1, 8, 9], [])
  | 15 => some ([8, 9, 44, 45, 46], [])
  | 16 => some ([8, 9, 44, 45, 46], [])
  | 17 => some ([8, 9, 11, 44, 45, 46], [])
  | 18 => some ([8, 9, 11, 12, 13, 44, 45, 46], [])
  | 19 => some ([8, 9, 12, 13, 14, 15, 16, 44, 45, 46], [])
  | 20 => some ([8, 9, 12, 13, 15, 16, 44, 45, 46], [])
  | 21 => some ([], [])
  | 22 => some ([8, 9, 44, 45, 46], [])
  | 23 => some ([], [])
  | _ => none
def f4_C (R_f7 : f7_R) (R_f16 : f16_R) (R_f17 : f17_R) (R_f18 : f18_R) (R_f10 : f10_R) (R_f19 : f19_R) (R_f20 : f20_R) (R_f21 : f21_R) (R_f15 : f15_R) : Fns := (orC 7 (f7_cOf R_f7) (orC 10 (f10_cOf R_f10) (orC 15 (f15_cOf R_f15) (orC 16 (f16_cOf R_f16) (orC 17 (f17_cOf R_f17) (orC 18 (f18_cOf R_f18) (orC 19 (f19_cOf R_f19) (orC 20 (f20_cOf R_f20) (orC 21 (f21_cOf R_f21) noC)))))))))
theorem f4_Cok (R_f7 : f7_R) (R_f16 : f16_R) (R_f17 : f17_R) (R_f18 : f18_R) (R_f10 : f10_R) (R_f19 : f19_R) (R_f20 : f20_R) (R_f21 : f21_R) (R_f15 : f15_R) (hR_f7 : AnsOk Try.prog 7 (f7_cOf R_f7)) (hR_f16 : AnsOk Try.prog 16 (f16_cOf R_f16)) (hR_f17 : AnsOk Try.prog 17 (f17_cOf R_f17)) (hR_f18 : AnsOk Try.prog 18 (f18_cOf R_f18)) (hR_f10 : AnsOk Try.prog 10 (f10_cOf R_f10)) (hR_f19 : AnsOk Try.prog 19 (f19_cOf R_f19)) (hR_f20 : AnsOk Try.prog 20 (f20_cOf R_f20)) (hR_f21 : AnsOk Try.prog 21 (f21_cOf R_f21)) (hR_f15 : AnsOk Try.prog 15 (f15_cOf R_f15)) : CsOk Try.prog (f4_C R_f7 R_f16 R_f17 R_f18 R_f10 R_f19 R_f20 R_f21 R_f15) := (orC_ok hR_f7 (orC_ok hR_f10 (orC_ok hR_f15 (orC_ok hR_f16 (orC_ok hR_f17 (orC_ok hR_f18 (orC_ok hR_f19 (orC_ok hR_f20 (orC_ok hR_f21 noC_ok)))))))))
def f4_cx (R_f7 : f7_R) (R_f16 : f16_R) (R_f17 : f17_R) (R_f18 : f18_R) (R_f10 : f10_R) (R_f19 : f19_R) (R_f20 : f20_R) (R_f21 : f21_R) (R_f15 : f15_R) (hR_f7 : AnsOk Try.prog 7 (f7_cOf R_f7)) (hR_f16 : AnsOk Try.prog 16 (f16_cOf R_f16)) (hR_f17 : AnsOk Try.prog 17 (f17_cOf R_f17)) (hR_f18 : AnsOk Try.prog 18 (f18_cOf R_f18)) (hR_f10 : AnsOk Try.prog 10 (f10_cOf R_f10)) (hR_f19 : AnsOk Try.prog 19 (f19_cOf R_f19)) (hR_f20 : AnsOk Try.prog 20 (f20_cOf R_f20)) (hR_f21 : AnsOk Try.prog 21 (f21_cOf R_f21)) (hR_f15 : AnsOk Try.prog 15 (f15_cOf R_f15)) : Cx := mkCx (tabOf rows) (f4_C R_f7 R_f16 R_f17 R_f18 R_f10 R_f19 R_f20 R_f21 R_f15) md (cmpIn cmps) f4_plan (f4_Cok R_f7 R_f16 R_f17 R_f18 R_f10 R_f19 R_f20 R_f21 R_f15 hR_f7 hR_f16 hR_f17 hR_f18 hR_f10 hR_f19 hR_f20 hR_f21 hR_f15)
def f4_S1 (v : Int × (List CV) × Int × (List CV) × Int × Int) : St := ⟨[(.v (CV.int .i64 v.1)), (.sl true (some 4) v.2.1), .undef, .undef, .undef, (.v (CV.int .i64 v.2.2.1)), .undef, .undef, .undef, .undef, .undef, .undef, .undef, .undef, .undef, .undef, .undef, .undef, .undef, (.sl true (some 4) v.2.2.2.1), (.v (CV.int .i64 v.2.2.2.2.1)), (.v (CV.int .i64 v.2.2.2.2.2)), .undef, .undef, .undef, .undef, .undef, .undef, .undef, .undef, .undef, .undef, .undef, .undef, .undef, .undef, .undef, .undef, .undef, .undef, .undef, .undef, .undef, .undef, .undef, .undef, .undef, .undef, .undef, .undef, .undef, .undef, .undef, .undef, .undef, .undef, .undef, .undef, .undef, .undef, .undef, .undef, .undef, .undef, .undef, .undef, .undef, .undef, .undef, .undef, .undef, .undef, .undef, .undef, .undef, .undef, .undef, .undef, .undef, .undef, .undef, .undef, .undef, .undef, .undef, .undef, .undef, .undef, .undef, .undef, .undef, .undef, .undef, .undef, .undef, .undef], []⟩
def f4_S2 (v : (List CV) × Int × Int × Int × Nat × Bool × (List CV) × Int × Nat × Bool × (List CV)) : St := ⟨[.undef, .undef, .undef, .undef, .undef, .undef, .undef, .undef, (.ptr [41] 0 0 0), (.ptr [9] 0 0 0), .undef, .undef, .undef, .undef, .undef, .undef, .undef, .undef, .undef, .undef, .undef, .undef, .undef, .undef, .undef, .undef, .undef, .undef, .undef, .undef, .undef, .undef, .undef, .undef, .undef, .undef, .undef, .undef, .undef, .undef, .undef, .undef, .undef, .undef, (.sl true (some 4) v.1), (.v (CV.int .i64 v.2.1)), (.v (CV.int .i64 v.2.2.1)), .undef, .undef, .undef, .undef, .undef, .undef, .undef, .undef, .undef, .undef, .undef, .undef, .undef, .undef, .undef, .undef, .undef, .undef, .undef, .undef, .undef, .undef, .undef, .undef, .undef, .undef, .undef, .undef, .undef, .undef, .undef, .undef, .undef, .undef, .undef, .undef, .undef, .undef, .undef, .undef, .undef, .undef, .undef, .undef, .undef, .undef, .undef, .undef, .undef], [([9], (.obj [(.v (CV.int .i64 v.2.2.2.1)), (.osl [1, 9] none 0 v.2.2.2.2.1), (.v (CV.bool v.2.2.2.2.2.1))])), ([1, 9], (.row false none v.2.2.2.2.2.2.1)), ([41], (.obj [(.v (CV.int .i64 v.2.2.2.2.2.2.2.1)), (.osl [1, 41] none 0 v.2.2.2.2.2.2.2.2.1), (.v (CV.bool v.2.2.2.2.2.2.2.2.2.1))])), ([1, 41], (.row false none v.2.2.2.2.2.2.2.2.2.2))]⟩
def f4_T2 {X : Type} (R_f7 : f7_R) (R_f16 : f16_R) (R_f17 : f17_R) (R_f18 : f18_R) (R_f10 : f10_R) (R_f19 : f19_R) (R_f20 : f20_R) (R_f21 : f21_R) (R_f15 : f15_R) (k : Nat) (K : Bool → Option X)   (rec2 : (List CV) × Int × Int × Int × Nat × Bool × (List CV) × Int × Nat × Bool × (List CV) → Option X) (v9_9 : (List CV) × Int × Int × Int × Nat × Bool × (List CV) × Int × Nat × Bool × (List CV)) : Option X :=
(bif (decide (v9_9.2.2.1 < v9_9.2.1)) then
grd (decide (0 ≤ v9_9.2.2.1)) <|
Option.bind (v9_9.1)[(Int.toNat v9_9.2.2.1)]? fun e32 =>
grd (CV.isA 4 e32) <|
grd (CV.isI .i64 (CV.cellD 0 e32)) <|
grd (CV.isB (CV.cellD 1 e32)) <|
grd (CV.isI .i64 (CV.cellD 2 e32)) <|
grd (CV.isL none (CV.cellD 3 e32)) <|
R_f18 _ (fun u33 =>
R_f10 _ (fun u34 =>
R_f19 _ (fun u35 =>
(bif (!(u33.1 == u35.2.2.2.1)) then
K (false)
else
(bif (u33.2.1 != u35.2.2.2.2.1) then
K (false)
else
R_f20 _ (fun u36 =>
(bif (u36.1 != (Nat.cast (u35.2.1) : Int)) then
K (false)
else
R_f21 _ (fun u37 =>
R_f15 _ (fun u38 =>
(bif (!u38) then
K (false)
else
rec2 (v9_9.1, v9_9.2.1, (IntKind.wrap .i64 (v9_9.2.2.1 + 1)), u35.1, u35.2.1, u35.2.2.1, u35.2.2.2.2.2, u37.2.1, u37.2.2.1, u37.2.2.2.1, u37.2.2.2.2.1))) ((List.take u37.1 (List.drop 0 u37.2.2.2.2.2))) ((List.take u35.2.1 (List.drop 0 u35.2.2.2.2.2)))) (u36.2.1) (u36.2.2.1) (u36.2.2.2.1) (u36.2.2.2.2))) (u33.2.2.1) (u33.2.2.2.1) (u33.2.2.2.2.1) (u33.2.2.2.2.2)))) ((CV.agg [(CV.int .i64 v9_9.2.2.2.1), (CV.slc none (List.take v9_9.2.2.2.2.1 (List.drop 0 v9_9.2.2.2.2.2.2.1))), (CV.bool v9_9.2.2.2.2.2.1)])) (u34) ((CV.toL (CV.cellD 3 e32)))) ((CV.agg [(CV.int .i64 (CV.toI (CV.cellD 0 e32))), (CV.bool (CV.toB (CV.cellD 1 e32))), (CV.int .i64 (CV.toI (CV.cellD 2 e32)))]))) ((CV.agg [(CV.int .i64 (CV.toI (CV.cellD 0 e32))), (CV.bool (CV.toB (CV.cellD 1 e32))), (CV.int .i64 (CV.toI (CV.cellD 2 e32)))])) ((CV.toL (CV.cellD 3 e32))) (v9_9.2.2.2.2.2.2.2.1) (v9_9.2.2.2.2.2.2.2.2.1) (v9_9.2.2.2.2.2.2.2.2.2.1) (v9_9.2.2.2.2.2.2.2.2.2.2)
else
K (true))
def f4_L2 {X : Type} (R_f7 : f7_R) (R_f16 : f16_R) (R_f17 : f17_R) (R_f18 : f18_R) (R_f10 : f10_R) (R_f19 : f19_R) (R_f20 : f20_R) (R_f21 : f21_R) (R_f15 : f15_R) (k : Nat) (K : Bool → Option X)  (rec2 : (List CV) × Int × Int × Int × Nat × Bool × (List CV) × Int × Nat × Bool × (List CV) → Option X) (v : (List CV) × Int × Int × Int × Nat × Bool × (List CV) × Int × Nat × Bool × (List CV)) : Option X := f4_T2 R_f7 R_f16 R_f17 R_f18 R_f10 R_f19 R_f20 R_f21 R_f15 k K   rec2 v
set_option maxRecDepth 100000 in
theorem f4_L2_ev {X : Type} (R_f7 : f7_R) (R_f16 : f16_R) (R_f17 : f17_R) (R_f18 : f18_R) (R_f10 : f10_R) (R_f19 : f19_R) (R_f20 : f20_R) (R_f21 : f21_R) (R_f15 : f15_R) (hR_f7 : AnsOk Try.prog 7 (f7_cOf R_f7)) (hR_f16 : AnsOk Try.prog 16 (f16_cOf R_f16)) (hR_f17 : AnsOk Try.prog 17 (f17_cOf R_f17)) (hR_f18 : AnsOk Try.prog 18 (f18_cOf R_f18)) (hR_f10 : AnsOk Try.prog 10 (f10_cOf R_f10)) (hR_f19 : AnsOk Try.prog 19 (f19_cOf R_f19)) (hR_f20 : AnsOk Try.prog 20 (f20_cOf R_f20)) (hR_f21 : AnsOk Try.prog 21 (f21_cOf R_f21)) (hR_f15 : AnsOk Try.prog 15 (f15_cOf R_f15)) (k : Nat) (K : Out → Option X)  (r2 : St → Option X) (v : (List CV) × Int × Int × Int × Nat × Bool × (List CV) × Int × Nat × Bool × (List CV)) : loopB (f4_cx R_f7 R_f16 R_f17 R_f18 R_f10 R_f19 R_f20 R_f21 R_f15 hR_f7 hR_f16 hR_f17 hR_f18 hR_f10 hR_f19 hR_f20 hR_f21 hR_f15) k [.r, .r, .r, .r, .r, .r, .l, .r, .b] (Try.f4.body.getD .skip) (retK (f4_cx R_f7 R_f16 R_f17 R_f18 R_f10 R_f19 R_f20 R_f21 R_f15 hR_f7 hR_f16 hR_f17 hR_f18 hR_f10 hR_f19 hR_f20 hR_f21 hR_f15) [] Try.f4.results.toList K) [] r2 (f4_S2 v) = f4_T2 R_f7 R_f16 R_f17 R_f18 R_f10 R_f19 R_f20 R_f21 R_f15 k (fun u => K (f4_out u))   (fun v => r2 (f4_S2 v)) v := by kernel_rfl
theorem f4_L2_it {X : Type} (R_f7 : f7_R) (R_f16 : f16_R) (R_f17 : f17_R) (R_f18 : f18_R) (R_f10 : f10_R) (R_f19 : f19_R) (R_f20 : f20_R) (R_f21 : f21_R) (R_f15 : f15_R) (hR_f7 : AnsOk Try.prog 7 (f7_cOf R_f7)) (hR_f16 : AnsOk Try.prog 16 (f16_cOf R_f16)) (hR_f17 : AnsOk Try.prog 17 (f17_cOf R_f17)) (hR_f18 : AnsOk Try.prog 18 (f18_cOf R_f18)) (hR_f10 : AnsOk Try.prog 10 (f10_cOf R_f10)) (hR_f19 : AnsOk Try.prog 19 (f19_cOf R_f19)) (hR_f20 : AnsOk Try.prog 20 (f20_cOf R_f20)) (hR_f21 : AnsOk Try.prog 21 (f21_cOf R_f21)) (hR_f15 : AnsOk Try.prog 15 (f15_cOf R_f15)) (k : Nat) (K : Out → Option X)  : (fun v => iter (loopB (f4_cx R_f7 R_f16 R_f17 R_f18 R_f10 R_f19 R_f20 R_f21 R_f15 hR_f7 hR_f16 hR_f17 hR_f18 hR_f10 hR_f19 hR_f20 hR_f21 hR_f15) k [.r, .r, .r, .r, .r, .r, .l, .r, .b] (Try.f4.body.getD .skip) (retK (f4_cx R_f7 R_f16 R_f17 R_f18 R_f10 R_f19 R_f20 R_f21 R_f15 hR_f7 hR_f16 hR_f17 hR_f18 hR_f10 hR_f19 hR_f20 hR_f21 hR_f15) [] Try.f4.results.toList K) []) k (f4_S2 v)) = iterV (f4_L2 R_f7 R_f16 R_f17 R_f18 R_f10 R_f19 R_f20 R_f21 R_f15 k (fun u => K (f4_out u)) ) k :=
  iter_map (fun r2 v => (f4_L2_ev R_f7 R_f16 R_f17 R_f18 R_f10 R_f19 R_f20 R_f21 R_f15 hR_f7 hR_f16 hR_f17 hR_f18 hR_f10 hR_f19 hR_f20 hR_f21 hR_f15 k K  r2 v).trans rfl) k
def f4_T1 {X : Type} (R_f7 : f7_R) (R_f16 : f16_R) (R_f17 : f17_R) (R_f18 : f18_R) (R_f10 : f10_R) (R_f19 : f19_R) (R_f20 : f20_R) (R_f21 : f21_R) (R_f15 : f15_R) (k : Nat) (K : Bool → Option X)  (loop2 : (List CV) × Int × Int × Int × Nat × Bool × (List CV) × Int × Nat × Bool × (List CV) → Option X) (rec1 : Int × (List CV) × Int × (List CV) × Int × Int → Option X) (v6_2 : Int × (List CV) × Int × (List CV) × Int × Int) : Option X :=
(bif (decide (v6_2.2.2.2.2.2 < v6_2.2.2.2.2.1)) then
grd (decide (0 ≤ v6_2.2.2.2.2.2)) <|
Option.bind (v6_2.2.2.2.1)[(Int.toNat v6_2.2.2.2.2.2)]? fun e7 =>
grd (CV.isA 4 e7) <|
grd (CV.isI .i64 (CV.cellD 0 e7)) <|
grd (CV.isB (CV.cellD 1 e7)) <|
grd (CV.isI .i64 (CV.cellD 2 e7)) <|
grd (CV.isL none (CV.cellD 3 e7)) <|
(bif (decide ((Nat.cast ((List.length (CV.toL (CV.cellD 3 e7)))) : Int) > (IntKind.wrap .i64 (6000 - v6_2.2.2.1)))) then
K (true)
else
rec1 (v6_2.1, v6_2.2.1, (IntKind.wrap .i64 (v6_2.2.2.1 + (Nat.cast ((List.length (CV.toL (CV.cellD 3 e7)))) : Int))), v6_2.2.2.2.1, v6_2.2.2.2.2.1, (IntKind.wrap .i64 (v6_2.2.2.2.2.2 + 1))))
else
(bif (decide ((Nat.cast ((List.length v6_2.2.1)) : Int) > 30)) then
K (true)
else
R_f16 _ (fun u8 =>
R_f17 _ (fun u9 =>
loop2 (v6_2.2.1, (Nat.cast ((List.length v6_2.2.1)) : Int), 0, u9.1, 0, false, u9.2, u8.1, 0, false, u8.2)) (v6_2.1)) (v6_2.1)))
def f4_L1 {X : Type} (R_f7 : f7_R) (R_f16 : f16_R) (R_f17 : f17_R) (R_f18 : f18_R) (R_f10 : f10_R) (R_f19 : f19_R) (R_f20 : f20_R) (R_f21 : f21_R) (R_f15 : f15_R) (k : Nat) (K : Bool → Option X)  (rec1 : Int × (List CV) × Int × (List CV) × Int × Int → Option X) (v : Int × (List CV) × Int × (List CV) × Int × Int) : Option X := f4_T1 R_f7 R_f16 R_f17 R_f18 R_f10 R_f19 R_f20 R_f21 R_f15 k K  (iterV (f4_L2 R_f7 R_f16 R_f17 R_f18 R_f10 R_f19 R_f20 R_f21 R_f15 k K ) k) rec1 v
set_option maxRecDepth 100000 in
theorem f4_L1_ev {X : Type} (R_f7 : f7_R) (R_f16 : f16_R) (R_f17 : f17_R) (R_f18 : f18_R) (R_f10 : f10_R) (R_f19 : f19_R) (R_f20 : f20_R) (R_f21 : f21_R) (R_f15 : f15_R) (hR_f7 : AnsOk Try.prog 7 (f7_cOf R_f7)) (hR_f16 : AnsOk Try.prog 16 (f16_cOf R_f16)) (hR_f17 : AnsOk Try.prog 17 (f17_cOf R_f17)) (hR_f18 : AnsOk Try.prog 18 (f18_cOf R_f18)) (hR_f10 : AnsOk Try.prog 10 (f10_cOf R_f10)) (hR_f19 : AnsOk Try.prog 19 (f19_cOf R_f19)) (hR_f20 : AnsOk Try.prog 20 (f20_cOf R_f20)) (hR_f21 : AnsOk Try.prog 21 (f21_cOf R_f21)) (hR_f15 : AnsOk Try.prog 15 (f15_cOf R_f15)) (k : Nat) (K : Out → Option X)  (r1 : St → Option X) (v : Int × (List CV) × Int × (List CV) × Int × Int) : loopB (f4_cx R_f7 R_f16 R_f17 R_f18 R_f10 R_f19 R_f20 R_f21 R_f15 hR_f7 hR_f16 hR_f17 hR_f18 hR_f10 hR_f19 hR_f20 hR_f21 hR_f15) k [.r, .r, .r, .l, .r, .b] (Try.f4.body.getD .skip) (retK (f4_cx R_f7 R_f16 R_f17 R_f18 R_f10 R_f19 R_f20 R_f21 R_f15 hR_f7 hR_f16 hR_f17 hR_f18 hR_f10 hR_f19 hR_f20 hR_f21 hR_f15) [] Try.f4.results.toList K) [] r1 (f4_S1 v) = f4_T1 R_f7 R_f16 R_f17 R_f18 R_f10 R_f19 R_f20 R_f21 R_f15 k (fun u => K (f4_out u))  (fun v => iter (loopB (f4_cx R_f7 R_f16 R_f17 R_f18 R_f10 R_f19 R_f20 R_f21 R_f15 hR_f7 hR_f16 hR_f17 hR_f18 hR_f10 hR_f19 hR_f20 hR_f21 hR_f15) k [.r, .r, .r, .r, .r, .r, .l, .r, .b] (Try.f4.body.getD .skip) (retK (f4_cx R_f7 R_f16 R_f17 R_f18 R_f10 R_f19 R_f20 R_f21 R_f15 hR_f7 hR_f16 hR_f17 hR_f18 hR_f10 hR_f19 hR_f20 hR_f21 hR_f15) [] Try.f4.results.toList K) []) k (f4_S2 v)) (fun v => r1 (f4_S1 v)) v := by kernel_rfl
theorem f4_L1_it {X : Type} (R_f7 : f7_R) (R_f16 : f16_R) (R_f17 : f17_R) (R_f18 : f18_R) (R_f10 : f10_R) (R_f19 : f19_R) (R_f20 : f20_R) (R_f21 : f21_R) (R_f15 : f15_R) (hR_f7 : AnsOk Try.prog 7 (f7_cOf R_f7)) (hR_f16 : AnsOk Try.prog 16 (f16_cOf R_f16)) (hR_f17 : AnsOk Try.prog 17 (f17_cOf R_f17)) (hR_f18 : AnsOk Try.prog 18 (f18_cOf R_f18)) (hR_f10 : AnsOk Try.prog 10 (f10_cOf R_f10)) (hR_f19 : AnsOk Try.prog 19 (f19_cOf R_f19)) (hR_f20 : AnsOk Try.prog 20 (f20_cOf R_f20)) (hR_f21 : AnsOk Try.prog 21 (f21_cOf R_f21)) (hR_f15 : AnsOk Try.prog 15 (f15_cOf R_f15)) (k : Nat) (K : Out → Option X)  : (fun v => iter (loopB (f4_cx R_f7 R_f16 R_f17 R_f18 R_f10 R_f19 R_f20 R_f21 R_f15 hR_f7 hR_f16 hR_f17 hR_f18 hR_f10 hR_f19 hR_f20 hR_f21 hR_f15) k [.r, .r, .r, .l, .r, .b] (Try.f4.body.getD .skip) (retK (f4_cx R_f7 R_f16 R_f17 R_f18 R_f10 R_f19 R_f20 R_f21 R_f15 hR_f7 hR_f16 hR_f17 hR_f18 hR_f10 hR_f19 hR_f20 hR_f21 hR_f15) [] Try.f4.results.toList K) []) k (f4_S1 v)) = iterV (f4_L1 R_f7 R_f16 R_f17 R_f18 R_f10 R_f19 R_f20 R_f21 R_f15 k (fun u => K (f4_out u)) ) k :=
  iter_map (fun r1 v => (f4_L1_ev R_f7 R_f16 R_f17 R_f18 R_f10 R_f19 R_f20 R_f21 R_f15 hR_f7 hR_f16 hR_f17 hR_f18 hR_f10 hR_f19 hR_f20 hR_f21 hR_f15 k K  r1 v).trans (by rw [f4_L2_it R_f7 R_f16 R_f17 R_f18 R_f10 R_f19 R_f20 R_f21 R_f15 hR_f7 hR_f16 hR_f17 hR_f18 hR_f10 hR_f19 hR_f20 hR_f21 hR_f15 k K ]; rfl)) k
def f4_T {X : Type} (R_f7 : f7_R) (R_f16 : f16_R) (R_f17 : f17_R) (R_f18 : f18_R) (R_f10 : f10_R) (R_f19 : f19_R) (R_f20 : f20_R) (R_f21 : f21_R) (R_f15 : f15_R) (k : Nat) (K : Bool → Option X) (loop1 : Int × (List CV) × Int × (List CV) × Int × Int → Option X) (x0 : Int) (x1 : List CV) : Option X :=
R_f7 _ (fun u2 =>
(bif (!u2) then
K (false)
else
loop1 (x0, x1, 0, x1, (Nat.cast ((List.length x1)) : Int), 0))) 
/-- "outpost/outpostlaw10.BlockPlays" -/
def f4_A (R_f7 : f7_R) (R_f16 : f16_R) (R_f17 : f17_R) (R_f18 : f18_R) (R_f10 : f10_R) (R_f19 : f19_R) (R_f20 : f20_R) (R_f21 : f21_R) (R_f15 : f15_R) (k : Nat) : f4_R := fun X K x0 x1 => f4_T R_f7 R_f16 R_f17 R_f18 R_f10 R_f19 R_f20 R_f21 R_f15 k K (iterV (f4_L1 R_f7 R_f16 R_f17 R_f18 R_f10 R_f19 R_f20 R_f21 R_f15 k K) k) x0 x1
set_option maxRecDepth 100000 in
theorem f4_ev' {X : Type} (R_f7 : f7_R) (R_f16 : f16_R) (R_f17 : f17_R) (R_f18 : f18_R) (R_f10 : f10_R) (R_f19 : f19_R) (R_f20 : f20_R) (R_f21 : f21_R) (R_f15 : f15_R) (hR_f7 : AnsOk Try.prog 7 (f7_cOf R_f7)) (hR_f16 : AnsOk Try.prog 16 (f16_cOf R_f16)) (hR_f17 : AnsOk Try.prog 17 (f17_cOf R_f17)) (hR_f18 : AnsOk Try.prog 18 (f18_cOf R_f18)) (hR_f10 : AnsOk Try.prog 10 (f10_cOf R_f10)) (hR_f19 : AnsOk Try.prog 19 (f19_cOf R_f19)) (hR_f20 : AnsOk Try.prog 20 (f20_cOf R_f20)) (hR_f21 : AnsOk Try.prog 21 (f21_cOf R_f21)) (hR_f15 : AnsOk Try.prog 15 (f15_cOf R_f15)) (k : Nat) (K : Out → Option X) (x0 : Int) (x1 : List CV) : evFn (f4_cx R_f7 R_f16 R_f17 R_f18 R_f10 R_f19 R_f20 R_f21 R_f15 hR_f7 hR_f16 hR_f17 hR_f18 hR_f10 hR_f19 hR_f20 hR_f21 hR_f15) [] k Try.f4.ntmps Try.f4.results.toList (Try.f4.body.getD .skip) [(.v (CV.int .i64 x0)), (.sl true (some 4) x1)] [] K = f4_T R_f7 R_f16 R_f17 R_f18 R_f10 R_f19 R_f20 R_f21 R_f15 k (fun u => K (f4_out u)) (fun v => iter (loopB (f4_cx R_f7 R_f16 R_f17 R_f18 R_f10 R_f19 R_f20 R_f21 R_f15 hR_f7 hR_f16 hR_f17 hR_f18 hR_f10 hR_f19 hR_f20 hR_f21 hR_f15) k [.r, .r, .r, .l, .r, .b] (Try.f4.body.getD .skip) (retK (f4_cx R_f7 R_f16 R_f17 R_f18 R_f10 R_f19 R_f20 R_f21 R_f15 hR_f7 hR_f16 hR_f17 hR_f18 hR_f10 hR_f19 hR_f20 hR_f21 hR_f15) [] Try.f4.results.toList K) []) k (f4_S1 v)) x0 x1 := by kernel_rfl
theorem f4_ev {X : Type} (R_f7 : f7_R) (R_f16 : f16_R) (R_f17 : f17_R) (R_f18 : f18_R) (R_f10 : f10_R) (R_f19 : f19_R) (R_f20 : f20_R) (R_f21 : f21_R) (R_f15 : f15_R) (hR_f7 : AnsOk Try.prog 7 (f7_cOf R_f7)) (hR_f16 : AnsOk Try.prog 16 (f16_cOf R_f16)) (hR_f17 : AnsOk Try.prog 17 (f17_cOf R_f17)) (hR_f18 : AnsOk Try.prog 18 (f18_cOf R_f18)) (hR_f10 : AnsOk Try.prog 10 (f10_cOf R_f10)) (hR_f19 : AnsOk Try.prog 19 (f19_cOf R_f19)) (hR_f20 : AnsOk Try.prog 20 (f20_cOf R_f20)) (hR_f21 : AnsOk Try.prog 21 (f21_cOf R_f21)) (hR_f15 : AnsOk Try.prog 15 (f15_cOf R_f15)) (k : Nat) (K : Out → Option X) (x0 : Int) (x1 : List CV) : evFn (f4_cx R_f7 R_f16 R_f17 R_f18 R_f10 R_f19 R_f20 R_f21 R_f15 hR_f7 hR_f16 hR_f17 hR_f18 hR_f10 hR_f19 hR_f20 hR_f21 hR_f15) [] k Try.f4.ntmps Try.f4.results.toList (Try.f4.body.getD .skip) [(.v (CV.int .i64 x0)), (.sl true (some 4) x1)] [] K = f4_A R_f7 R_f16 R_f17 R_f18 R_f10 R_f19 R_f20 R_f21 R_f15 k X (fun u => K (f4_out u)) x0 x1 := (f4_ev' R_f7 R_f16 R_f17 R_f18 R_f10 R_f19 R_f20 R_f21 R_f15 hR_f7 hR_f16 hR_f17 hR_f18 hR_f10 hR_f19 hR_f20 hR_f21 hR_f15 k K x0 x1).trans (by rw [f4_L1_it R_f7 R_f16 R_f17 R_f18 R_f10 R_f19 R_f20 R_f21 R_f15 hR_f7 hR_f16 hR_f17 hR_f18 hR_f10 hR_f19 hR_f20 hR_f21 hR_f15 k K]; rfl)
theorem f4_okA (R_f7 : f7_R) (R_f16 : f16_R) (R_f17 : f17_R) (R_f18 : f18_R) (R_f10 : f10_R) (R_f19 : f19_R) (R_f20 : f20_R) (R_f21 : f21_R) (R_f15 : f15_R) (hR_f7 : AnsOk Try.prog 7 (f7_cOf R_f7)) (hR_f16 : AnsOk Try.prog 16 (f16_cOf R_f16)) (hR_f17 : AnsOk Try.prog 17 (f17_cOf R_f17)) (hR_f18 : AnsOk Try.prog 18 (f18_cOf R_f18)) (hR_f10 : AnsOk Try.prog 10 (f10_cOf R_f10)) (hR_f19 : AnsOk Try.prog 19 (f19_cOf R_f19)) (hR_f20 : AnsOk Try.prog 20 (f20_cOf R_f20)) (hR_f21 : AnsOk Try.prog 21 (f21_cOf R_f21)) (hR_f15 : AnsOk Try.prog 15 (f15_cOf R_f15)) (k : Nat) : AnsOk Try.prog 4 (f4_cOf (f4_A R_f7 R_f16 R_f17 R_f18 R_f10 R_f19 R_f20 R_f21 R_f15 k)) := by
  intro X xs ns K x h
  unfold f4_cOf at h ⊢
  split at h
  · exact ans_main S (f4_Cok R_f7 R_f16 R_f17 R_f18 R_f10 R_f19 R_f20 R_f21 R_f15 hR_f7 hR_f16 hR_f17 hR_f18 hR_f10 hR_f19 hR_f20 hR_f21 hR_f15) Try.func4 (ent_of Try.func4 (by kernel_rfl) rfl) rfl (fun X K => f4_ev R_f7 R_f16 R_f17 R_f18 R_f10 R_f19 R_f20 R_f21 R_f15 hR_f7 hR_f16 hR_f17 hR_f18 hR_f10 hR_f19 hR_f20 hR_f21 hR_f15 k K _ _) h
  · cases h
/-- "outpost/outpostlaw10.BlockPlays" -/
def f4 {X : Type} (k : Nat) (K : Bool → Option X) (x0 : Int) (x1 : List CV) : Option X := f4_A (fun X => @f7 X k) (fun X => @f16 X k) (fun X => @f17 X k) (fun X => @f18 X k) (fun X => @f10 X k) (fun X => @f19 X k) (fun X => @f20 X k) (fun X => @f21 X k) (fun X => @f15 X k) k X K x0 x1
theorem f4_ok (k : Nat) : AnsOk Try.prog 4 (f4_cOf (fun X => @f4 X k)) := f4_okA (fun X => @f7 X k) (fun X => @f16 X k) (fun X => @f17 X k) (fun X => @f18 X k) (fun X => @f10 X k) (fun X => @f19 X k) (fun X => @f20 X k) (fun X => @f21 X k) (fun X => @f15 X k) (f7_ok k) (f16_ok k) (f17_ok k) (f18_ok k) (f10_ok k) (f19_ok k) (f20_ok k) (f21_ok k) (f15_ok k) k
abbrev f5_R : Type 1 := (X : Type) → (Bool → Option X) → (List CV) → Int → Int → Option X
def f5_out (u : Bool) : Out := ⟨(.v (CV.bool u)), []⟩
def f5_cOf (R : f5_R) : FnC := fun X xs ns K => match xs, ns with
  | [(.sl true none x0), (.v (CV.int .i64 x1)), (.v (CV.int .i64 x2))], [] => R X (fun u => K (f5_out u)) x0 x1 x2
  | _, _ => none
def f5_plan : Nat → Option (List Nat × List Wk)
  | 0 => some ([0, 1, 2], [])
  | 1 => some ([0, 1, 2], [])
  | 2 => some ([], [])
  | 3 => some ([0, 1, 2], [])
  | 4 => some ([], [])
  | 5 => some ([0, 1, 2], [])
  | 6 => some ([0, 1, 2], [])
  | 7 => some ([0, 1, 2, 7], [])
  | 8 => some ([0, 1, 2, 7, 8], [])
  | 9 => some ([0, 1, 2, 7, 8, 9, 10, 11], [])
  | 10 => some ([], [])
  | 11 => some ([0, 1, 2, 7, 8, 9, 10], [])
  | 12 => some ([0, 1, 2, 7, 8, 9, 10, 12, 13], [])
  | 13 => some ([0, 1, 2, 7, 8, 9, 10, 13, 14, 15], [])
  | 14 => some ([0, 1, 2, 7, 8, 10, 13, 15, 16, 17], [])
  | 15 => some ([], [])
  | 16 => some ([0, 1, 2, 7, 8, 16], [])
  | 17 => some ([0, 1, 2, 7, 8, 16], [])
  | 18 => some ([0, 1, 2, 7, 8], [])
  | 19 => some ([0, 1, 2, 7, 8, 20], [])
  | 20 => some ([], [])
  | 21 => some ([0, 1, 2, 8], [])
  | 22 => some ([0, 1, 2, 8, 21], [])
  | 23 => some ([0, 1, 2, 21], [])
  | 24 => some ([0, 1, 2, 21, 22], [])
  | 25 => some ([0, 1, 2, 21, 22], [])
  | 26 => some ([0, 1, 2, 21, 22], [])
  | 27 => some ([0, 1, 2, 21, 22, 23, 24], [])
  | 28 => some ([0, 1, 2, 21], [])
  | 29 => some ([1, 2, 21, 26, 27], [])
  | 30 => some ([2, 21, 30], [])
  | _ => none
def f5_C (R_f7 : f7_R) (R_f16 : f16_R) (R_f13 : f13_R) (R_f8 : f8_R) (R_f11 : f11_R) (R_f18 : f18_R) (R_f21 : f21_R) (R_f15 : f15_R) (R_f20 : f20_R) : Fns := (orC 7 (f7_cOf R_f7) (orC 8 (f8_cOf R_f8) (orC 11 (f11_cOf R_f11) (orC 13 (f13_cOf R_f13) (orC 15 (f15_cOf R_f15) (orC 16 (f16_cOf R_f16) (orC 18 (f18_cOf R_f18) (orC 20 (f20_cOf R_f20) (orC 21 (f21_cOf R_f21) noC)))))))))
theorem f5_Cok (R_f7 : f7_R) (R_f16 : f16_R) (R_f13 : f13_R) (R_f8 : f8_R) (R_f11 : f11_R) (R_f18 : f18_R) (R_f21 : f21_R) (R_f15 : f15_R) (R_f20 : f20_R) (hR_f7 : AnsOk Try.prog 7 (f7_cOf R_f7)) (hR_f16 : AnsOk Try.prog 16 (f16_cOf R_f16)) (hR_f13 : AnsOk Try.prog 13 (f13_cOf R_f13)) (hR_f8 : AnsOk Try.prog 8 (f8_cOf R_f8)) (hR_f11 : AnsOk Try.prog 11 (f11_cOf R_f11)) (hR_f18 : AnsOk Try.prog 18 (f18_cOf R_f18)) (hR_f21 : AnsOk Try.prog 21 (f21_cOf R_f21)) (hR_f15 : AnsOk Try.prog 15 (f15_cOf R_f15)) (hR_f20 : AnsOk Try.prog 20 (f20_cOf R_f20)) : CsOk Try.prog (f5_C R_f7 R_f16 R_f13 R_f8 R_f11 R_f18 R_f21 R_f15 R_f20) := (orC_ok hR_f7 (orC_ok hR_f8 (orC_ok hR_f11 (orC_ok hR_f13 (orC_ok hR_f15 (orC_ok hR_f16 (orC_ok hR_f18 (orC_ok hR_f20 (orC_ok hR_f21 noC_ok)))))))))
def f5_cx (R_f7 : f7_R) (R_f16 : f16_R) (R_f13 : f13_R) (R_f8 : f8_R) (R_f11 : f11_R) (R_f18 : f18_R) (R_f21 : f21_R) (R_f15 : f15_R) (R_f20 : f20_R) (hR_f7 : AnsOk Try.prog 7 (f7_cOf R_f7)) (hR_f16 : AnsOk Try.prog 16 (f16_cOf R_f16)) (hR_f13 : AnsOk Try.prog 13 (f13_cOf R_f13)) (hR_f8 : AnsOk Try.prog 8 (f8_cOf R_f8)) (hR_f11 : AnsOk Try.prog 11 (f11_cOf R_f11)) (hR_f18 : AnsOk Try.prog 18 (f18_cOf R_f18)) (hR_f21 : AnsOk Try.prog 21 (f21_cOf R_f21)) (hR_f15 : AnsOk Try.prog 15 (f15_cOf R_f15)) (hR_f20 : AnsOk Try.prog 20 (f20_cOf R_f20)) : Cx := mkCx (tabOf rows) (f5_C R_f7 R_f16 R_f13 R_f8 R_f11 R_f18 R_f21 R_f15 R_f20) md (cmpIn cmps) f5_plan (f5_Cok R_f7 R_f16 R_f13 R_f8 R_f11 R_f18 R_f21 R_f15 R_f20 hR_f7 hR_f16 hR_f13 hR_f8 hR_f11 hR_f18 hR_f21 hR_f15 hR_f20)
def f5_S1 (v : (List CV) × Int × Int × Int × Int × Nat × Bool × (List CV)) : St := ⟨[(.sl true none v.1), (.v (CV.int .i64 v.2.1)), (.v (CV.int .i64 v.2.2.1)), .undef, .undef, .undef, .undef, (.ptr [42] 0 0 0), (.v (CV.int .i64 v.2.2.2.1)), .undef, .undef, .undef, .undef, .undef, .undef, .undef, .undef, .undef, .undef, .undef, .undef, .undef, .undef, .undef, .undef, .undef, .undef, .undef, .undef, .undef, .undef, .undef, .undef, .undef, .undef, .undef, .undef, .undef, .undef, .undef, .undef, .undef, .undef, .undef, .undef, .undef, .undef, .undef, .undef, .undef, .undef, .undef, .undef, .undef, .undef, .undef, .undef, .undef, .undef, .undef, .undef, .undef, .undef, .undef, .undef, .undef, .undef, .undef, .undef, .undef, .undef, .undef, .undef, .undef, .undef, .undef, .undef, .undef, .undef, .undef, .undef, .undef, .undef, .undef, .undef, .undef, .undef, .undef, .undef, .undef, .undef, .undef, .undef, .undef, .undef, .undef, .undef, .undef, .undef, .undef, .undef, .undef, .undef, .undef, .undef, .undef, .undef, .undef, .undef, .undef, .undef, .undef, .undef, .undef, .undef, .undef, .undef, .undef, .undef, .undef, .undef, .undef, .undef, .undef, .undef, .undef, .undef, .undef, .undef, .undef, .undef, .undef, .undef, .undef, .undef, .undef, .undef, .undef, .undef, .undef, .undef, .undef, .undef, .undef, .undef, .undef, .undef, .undef, .undef, .undef, .undef, .undef, .undef, .undef, .undef, .undef, .undef, .undef, .undef, .undef, .undef, .undef, .undef, .undef, .undef, .undef, .undef, .undef, .undef, .undef, .undef, .undef, .undef, .undef, .undef, .undef, .undef, .undef, .undef, .undef, .undef, .undef, .undef], [([42], (.obj [(.v (CV.int .i64 v.2.2.2.2.1)), (.osl [1, 42] none 0 v.2.2.2.2.2.1), (.v (CV.bool v.2.2.2.2.2.2.1))])), ([1, 42], (.row false none v.2.2.2.2.2.2.2))]⟩
def f5_S2 (v : (List CV) × Int × Int × Int × Int × Nat × Bool × (List CV)) : St := ⟨[(.sl true none v.1), (.v (CV.int .i64 v.2.1)), (.v (CV.int .i64 v.2.2.1)), .undef, .undef, .undef, .undef, .undef, .undef, .undef, .undef, .undef, .undef, .undef, .undef, .undef, .undef, .undef, .undef, .undef, .undef, (.ptr [121] 0 0 0), (.v (CV.int .i64 v.2.2.2.1)), .undef, .undef, .undef, .undef, .undef, .undef, .undef, .undef, .undef, .undef, .undef, .undef, .undef, .undef, .undef, .undef, .undef, .undef, .undef, .undef, .undef, .undef, .undef, .undef, .undef, .undef, .undef, .undef, .undef, .undef, .undef, .undef, .undef, .undef, .undef, .undef, .undef, .undef, .undef, .undef, .undef, .undef, .undef, .undef, .undef, .undef, .undef, .undef, .undef, .undef, .undef, .undef, .undef, .undef, .undef, .undef, .undef, .undef, .undef, .undef, .undef, .undef, .undef, .undef, .undef, .undef, .undef, .undef, .undef, .undef, .undef, .undef, .undef, .undef, .undef, .undef, .undef, .undef, .undef, .undef, .undef, .undef, .undef, .undef, .undef, .undef, .undef, .undef, .undef, .undef, .undef, .undef, .undef, .undef, .undef, .undef, .undef, .undef, .undef, .undef, .undef, .undef, .undef, .undef, .undef, .undef, .undef, .undef, .undef, .undef, .undef, .undef, .undef, .undef, .undef, .undef, .undef, .undef, .undef, .undef, .undef, .undef, .undef, .undef, .undef, .undef, .undef, .undef, .undef, .undef, .undef, .undef, .undef, .undef, .undef, .undef, .undef, .undef, .undef, .undef, .undef, .undef, .undef, .undef, .undef, .undef, .undef, .undef, .undef, .undef, .undef, .undef, .undef, .undef, .undef, .undef, .undef, .undef, .undef, .undef], [([121], (.obj [(.v (CV.int .i64 v.2.2.2.2.1)), (.osl [1, 121] none 0 v.2.2.2.2.2.1), (.v (CV.bool v.2.2.2.2.2.2.1))])), ([1, 121], (.row false none v.2.2.2.2.2.2.2))]⟩
def f5_T2 {X : Type} (R_f7 : f7_R) (R_f16 : f16_R) (R_f13 : f13_R) (R_f8 : f8_R) (R_f11 : f11_R) (R_f18 : f18_R) (R_f21 : f21_R) (R_f15 : f15_R) (R_f20 : f20_R) (k : Nat) (K : Bool → Option X)   (rec2 : (List CV) × Int × Int × Int × Int × Nat × Bool × (List CV) → Option X) (v14_18 : (List CV) × Int × Int × Int × Int × Nat × Bool × (List CV)) : Option X :=
(bif (decide (v14_18.2.2.2.1 ≤ v14_18.2.2.1)) then
R_f13 _ (fun u26 =>
R_f18 _ (fun u27 =>
rec2 (v14_18.1, v14_18.2.1, v14_18.2.2.1, (IntKind.wrap .i64 (v14_18.2.2.2.1 + 1)), u27.2.2.1, u27.2.2.2.1, u27.2.2.2.2.1, u27.2.2.2.2.2)) ((CV.agg [(CV.int .i64 v14_18.2.2.2.1), (CV.bool u26.2.1), (CV.int .i64 v14_18.2.1)])) ((List.take u26.1 (List.drop 0 u26.2.2.2))) (v14_18.2.2.2.2.1) (v14_18.2.2.2.2.2.1) (v14_18.2.2.2.2.2.2.1) (v14_18.2.2.2.2.2.2.2)) (v14_18.1) (v14_18.2.2.2.1) (v14_18.2.1)
else
R_f13 _ (fun u28 =>
R_f18 _ (fun u29 =>
(bif (v14_18.2.2.1 == 0) then
(bif (u29.2.1 == 0) then
K (true)
else
(bif (decide (v14_18.2.2.1 > 0)) then
(bif (u29.2.1 == 4) then
R_f20 _ (fun u30 =>
K ((u30.1 == 0))) (u29.2.2.1) (u29.2.2.2.1) (u29.2.2.2.2.1) (u29.2.2.2.2.2)
else
K (false))
else
K (false)))
else
(bif (decide (v14_18.2.2.1 > 0)) then
(bif (u29.2.1 == 4) then
R_f20 _ (fun u31 =>
K ((u31.1 == 0))) (u29.2.2.1) (u29.2.2.2.1) (u29.2.2.2.2.1) (u29.2.2.2.2.2)
else
K (false))
else
K (false)))) ((CV.agg [(CV.int .i64 v14_18.2.2.1), (CV.bool u28.2.1), (CV.int .i64 v14_18.2.1)])) ((List.take u28.1 (List.drop 0 u28.2.2.2))) (v14_18.2.2.2.2.1) (v14_18.2.2.2.2.2.1) (v14_18.2.2.2.2.2.2.1) (v14_18.2.2.2.2.2.2.2)) (v14_18.1) (v14_18.2.2.1) (v14_18.2.1))
def f5_L2 {X : Type} (R_f7 : f7_R) (R_f16 : f16_R) (R_f13 : f13_R) (R_f8 : f8_R) (R_f11 : f11_R) (R_f18 : f18_R) (R_f21 : f21_R) (R_f15 : f15_R) (R_f20 : f20_R) (k : Nat) (K : Bool → Option X)  (rec2 : (List CV) × Int × Int × Int × Int × Nat × Bool × (List CV) → Option X) (v : (List CV) × Int × Int × Int × Int × Nat × Bool × (List CV)) : Option X := f5_T2 R_f7 R_f16 R_f13 R_f8 R_f11 R_f18 R_f21 R_f15 R_f20 k K   rec2 v
set_option maxRecDepth 100000 in
theorem f5_L2_ev {X : Type} (R_f7 : f7_R) (R_f16 : f16_R) (R_f13 : f13_R) (R_f8 : f8_R) (R_f11 : f11_R) (R_f18 : f18_R) (R_f21 : f21_R) (R_f15 : f15_R) (R_f20 : f20_R) (hR_f7 : AnsOk Try.prog 7 (f7_cOf R_f7)) (hR_f16 : AnsOk Try.prog 16 (f16_cOf R_f16)) (hR_f13 : AnsOk Try.prog 13 (f13_cOf R_f13)) (hR_f8 : AnsOk Try.prog 8 (f8_cOf R_f8)) (hR_f11 : AnsOk Try.prog 11 (f11_cOf R_f11)) (hR_f18 : AnsOk Try.prog 18 (f18_cOf R_f18)) (hR_f21 : AnsOk Try.prog 21 (f21_cOf R_f21)) (hR_f15 : AnsOk Try.prog 15 (f15_cOf R_f15)) (hR_f20 : AnsOk Try.prog 20 (f20_cOf R_f20)) (k : Nat) (K : Out → Option X)  (r2 : St → Option X) (v : (List CV) × Int × Int × Int × Int × Nat × Bool × (List CV)) : loopB (f5_cx R_f7 R_f16 R_f13 R_f8 R_f11 R_f18 R_f21 R_f15 R_f20 hR_f7 hR_f16 hR_f13 hR_f8 hR_f11 hR_f18 hR_f21 hR_f15 hR_f20) k [.r, .r, .r, .r, .r, .r, .r, .r, .r, .r, .r, .l, .r, .b] (Try.f5.body.getD .skip) (retK (f5_cx R_f7 R_f16 R_f13 R_f8 R_f11 R_f18 R_f21 R_f15 R_f20 hR_f7 hR_f16 hR_f13 hR_f8 hR_f11 hR_f18 hR_f21 hR_f15 hR_f20) [] Try.f5.results.toList K) [] r2 (f5_S2 v) = f5_T2 R_f7 R_f16 R_f13 R_f8 R_f11 R_f18 R_f21 R_f15 R_f20 k (fun u => K (f5_out u))   (fun v => r2 (f5_S2 v)) v := by kernel_rfl
theorem f5_L2_it {X : Type} (R_f7 : f7_R) (R_f16 : f16_R) (R_f13 : f13_R) (R_f8 : f8_R) (R_f11 : f11_R) (R_f18 : f18_R) (R_f21 : f21_R) (R_f15 : f15_R) (R_f20 : f20_R) (hR_f7 : AnsOk Try.prog 7 (f7_cOf R_f7)) (hR_f16 : AnsOk Try.prog 16 (f16_cOf R_f16)) (hR_f13 : AnsOk Try.prog 13 (f13_cOf R_f13)) (hR_f8 : AnsOk Try.prog 8 (f8_cOf R_f8)) (hR_f11 : AnsOk Try.prog 11 (f11_cOf R_f11)) (hR_f18 : AnsOk Try.prog 18 (f18_cOf R_f18)) (hR_f21 : AnsOk Try.prog 21 (f21_cOf R_f21)) (hR_f15 : AnsOk Try.prog 15 (f15_cOf R_f15)) (hR_f20 : AnsOk Try.prog 20 (f20_cOf R_f20)) (k : Nat) (K : Out → Option X)  : (fun v => iter (loopB (f5_cx R_f7 R_f16 R_f13 R_f8 R_f11 R_f18 R_f21 R_f15 R_f20 hR_f7 hR_f16 hR_f13 hR_f8 hR_f11 hR_f18 hR_f21 hR_f15 hR_f20) k [.r, .r, .r, .r, .r, .r, .r, .r, .r, .r, .r, .l, .r, .b] (Try.f5.body.getD .skip) (retK (f5_cx R_f7 R_f16 R_f13 R_f8 R_f11 R_f18 R_f21 R_f15 R_f20 hR_f7 hR_f16 hR_f13 hR_f8 hR_f11 hR_f18 hR_f21 hR_f15 hR_f20) [] Try.f5.results.toList K) []) k (f5_S2 v)) = iterV (f5_L2 R_f7 R_f16 R_f13 R_f8 R_f11 R_f18 R_f21 R_f15 R_f20 k (fun u => K (f5_out u)) ) k :=
  iter_map (fun r2 v => (f5_L2_ev R_f7 R_f16 R_f13 R_f8 R_f11 R_f18 R_f21 R_f15 R_f20 hR_f7 hR_f16 hR_f13 hR_f8 hR_f11 hR_f18 hR_f21 hR_f15 hR_f20 k K  r2 v).trans rfl) k
def f5_T1 {X : Type} (R_f7 : f7_R) (R_f16 : f16_R) (R_f13 : f13_R) (R_f8 : f8_R) (R_f11 : f11_R) (R_f18 : f18_R) (R_f21 : f21_R) (R_f15 : f15_R) (R_f20 : f20_R) (k : Nat) (K : Bool → Option X)  (loop2 : (List CV) × Int × Int × Int × Int × Nat × Bool × (List CV) → Option X) (rec1 : (List CV) × Int × Int × Int × Int × Nat × Bool × (List CV) → Option X) (v8_3 : (List CV) × Int × Int × Int × Int × Nat × Bool × (List CV)) : Option X :=
R_f13 _ (fun u9 =>
(bif (!u9.2.2.1) then
K (false)
else
R_f8 _ (fun u10 =>
R_f11 _ (fun u11 =>
grd (CV.isA 3 u11.1) <|
grd (CV.isI .i64 (CV.cellD 0 u11.1)) <|
grd (CV.isB (CV.cellD 1 u11.1)) <|
grd (CV.isI .i64 (CV.cellD 2 u11.1)) <|
R_f18 _ (fun u12 =>
(bif (u10.2.1 != 0) then
K (false)
else
(bif (u11.2 != 0) then
K (false)
else
(bif (u12.2.1 != 0) then
K (false)
else
(bif (u12.1 == u9.2.1) then
K (false)
else
(bif u12.1 then
R_f13 _ (fun u13 =>
R_f21 _ (fun u16 =>
R_f15 _ (fun u17 =>
(bif (!u17) then
K (false)
else
(bif u13.2.2.1 then
K (false)
else
grd (v8_3.2.1 != 0) <|
(bif ((IntKind.wrap .i64 (v8_3.2.2.2.1 + 1)) != (if (IntKind.wrap .i64 (Int.tdiv (IntKind.wrap .i64 ((IntKind.wrap .i64 ((Nat.cast ((List.length v8_3.1)) : Int) + v8_3.2.1)) - 1)) v8_3.2.1)) > 1 then (IntKind.wrap .i64 (Int.tdiv (IntKind.wrap .i64 ((IntKind.wrap .i64 ((Nat.cast ((List.length v8_3.1)) : Int) + v8_3.2.1)) - 1)) v8_3.2.1)) else 1)) then
K (false)
else
R_f16 _ (fun u18 =>
grd ((IntKind.wrap .i64 (v8_3.2.2.2.1 + 1)) != 0) <|
loop2 (v8_3.1, v8_3.2.1, (Int.tmod (bop .and .i64 v8_3.2.2.1 1023) (IntKind.wrap .i64 (v8_3.2.2.2.1 + 1))), 0, u18.1, 0, false, u18.2)) ((Nat.cast ((List.length v8_3.1)) : Int)))))) ((List.take u16.1 (List.drop 0 u16.2.2.2.2.2))) (v8_3.1)) (u12.2.2.1) (u12.2.2.2.1) (u12.2.2.2.2.1) (u12.2.2.2.2.2)) (v8_3.1) ((IntKind.wrap .i64 (v8_3.2.2.2.1 + 1))) (v8_3.2.1)
else
rec1 (v8_3.1, v8_3.2.1, v8_3.2.2.1, (IntKind.wrap .i64 (v8_3.2.2.2.1 + 1)), u12.2.2.1, u12.2.2.2.1, u12.2.2.2.2.1, u12.2.2.2.2.2))))))) ((CV.agg [(CV.int .i64 (CV.toI (CV.cellD 0 u11.1))), (CV.bool (CV.toB (CV.cellD 1 u11.1))), (CV.int .i64 (CV.toI (CV.cellD 2 u11.1)))])) ((List.take u9.1 (List.drop 0 u9.2.2.2))) (v8_3.2.2.2.2.1) (v8_3.2.2.2.2.2.1) (v8_3.2.2.2.2.2.2.1) (v8_3.2.2.2.2.2.2.2)) ((List.take u10.1 (List.drop 0 u10.2.2)))) ((CV.agg [(CV.int .i64 v8_3.2.2.2.1), (CV.bool u9.2.1), (CV.int .i64 v8_3.2.1)])))) (v8_3.1) (v8_3.2.2.2.1) (v8_3.2.1)
def f5_L1 {X : Type} (R_f7 : f7_R) (R_f16 : f16_R) (R_f13 : f13_R) (R_f8 : f8_R) (R_f11 : f11_R) (R_f18 : f18_R) (R_f21 : f21_R) (R_f15 : f15_R) (R_f20 : f20_R) (k : Nat) (K : Bool → Option X)  (rec1 : (List CV) × Int × Int × Int × Int × Nat × Bool × (List CV) → Option X) (v : (List CV) × Int × Int × Int × Int × Nat × Bool × (List CV)) : Option X := f5_T1 R_f7 R_f16 R_f13 R_f8 R_f11 R_f18 R_f21 R_f15 R_f20 k K  (iterV (f5_L2 R_f7 R_f16 R_f13 R_f8 R_f11 R_f18 R_f21 R_f15 R_f20 k K ) k) rec1 v
set_option maxRecDepth 100000 in
theorem f5_L1_ev {X : Type} (R_f7 : f7_R) (R_f16 : f16_R) (R_f13 : f13_R) (R_f8 : f8_R) (R_f11 : f11_R) (R_f18 : f18_R) (R_f21 : f21_R) (R_f15 : f15_R) (R_f20 : f20_R) (hR_f7 : AnsOk Try.prog 7 (f7_cOf R_f7)) (hR_f16 : AnsOk Try.prog 16 (f16_cOf R_f16)) (hR_f13 : AnsOk Try.prog 13 (f13_cOf R_f13)) (hR_f8 : AnsOk Try.prog 8 (f8_cOf R_f8)) (hR_f11 : AnsOk Try.prog 11 (f11_cOf R_f11)) (hR_f18 : AnsOk Try.prog 18 (f18_cOf R_f18)) (hR_f21 : AnsOk Try.prog 21 (f21_cOf R_f21)) (hR_f15 : AnsOk Try.prog 15 (f15_cOf R_f15)) (hR_f20 : AnsOk Try.prog 20 (f20_cOf R_f20)) (k : Nat) (K : Out → Option X)  (r1 : St → Option X) (v : (List CV) × Int × Int × Int × Int × Nat × Bool × (List CV)) : loopB (f5_cx R_f7 R_f16 R_f13 R_f8 R_f11 R_f18 R_f21 R_f15 R_f20 hR_f7 hR_f16 hR_f13 hR_f8 hR_f11 hR_f18 hR_f21 hR_f15 hR_f20) k [.r, .r, .r, .r, .r, .r, .l, .b] (Try.f5.body.getD .skip) (retK (f5_cx R_f7 R_f16 R_f13 R_f8 R_f11 R_f18 R_f21 R_f15 R_f20 hR_f7 hR_f16 hR_f13 hR_f8 hR_f11 hR_f18 hR_f21 hR_f15 hR_f20) [] Try.f5.results.toList K) [] r1 (f5_S1 v) = f5_T1 R_f7 R_f16 R_f13 R_f8 R_f11 R_f18 R_f21 R_f15 R_f20 k (fun u => K (f5_out u))  (fun v => iter (loopB (f5_cx R_f7 R_f16 R_f13 R_f8 R_f11 R_f18 R_f21 R_f15 R_f20 hR_f7 hR_f16 hR_f13 hR_f8 hR_f11 hR_f18 hR_f21 hR_f15 hR_f20) k [.r, .r, .r, .r, .r, .r, .r, .r, .r, .r, .r, .l, .r, .b] (Try.f5.body.getD .skip) (retK (f5_cx R_f7 R_f16 R_f13 R_f8 R_f11 R_f18 R_f21 R_f15 R_f20 hR_f7 hR_f16 hR_f13 hR_f8 hR_f11 hR_f18 hR_f21 hR_f15 hR_f20) [] Try.f5.results.toList K) []) k (f5_S2 v)) (fun v => r1 (f5_S1 v)) v := by kernel_rfl
theorem f5_L1_it {X : Type} (R_f7 : f7_R) (R_f16 : f16_R) (R_f13 : f13_R) (R_f8 : f8_R) (R_f11 : f11_R) (R_f18 : f18_R) (R_f21 : f21_R) (R_f15 : f15_R) (R_f20 : f20_R) (hR_f7 : AnsOk Try.prog 7 (f7_cOf R_f7)) (hR_f16 : AnsOk Try.prog 16 (f16_cOf R_f16)) (hR_f13 : AnsOk Try.prog 13 (f13_cOf R_f13)) (hR_f8 : AnsOk Try.prog 8 (f8_cOf R_f8)) (hR_f11 : AnsOk Try.prog 11 (f11_cOf R_f11)) (hR_f18 : AnsOk Try.prog 18 (f18_cOf R_f18)) (hR_f21 : AnsOk Try.prog 21 (f21_cOf R_f21)) (hR_f15 : AnsOk Try.prog 15 (f15_cOf R_f15)) (hR_f20 : AnsOk Try.prog 20 (f20_cOf R_f20)) (k : Nat) (K : Out → Option X)  : (fun v => iter (loopB (f5_cx R_f7 R_f16 R_f13 R_f8 R_f11 R_f18 R_f21 R_f15 R_f20 hR_f7 hR_f16 hR_f13 hR_f8 hR_f11 hR_f18 hR_f21 hR_f15 hR_f20) k [.r, .r, .r, .r, .r, .r, .l, .b] (Try.f5.body.getD .skip) (retK (f5_cx R_f7 R_f16 R_f13 R_f8 R_f11 R_f18 R_f21 R_f15 R_f20 hR_f7 hR_f16 hR_f13 hR_f8 hR_f11 hR_f18 hR_f21 hR_f15 hR_f20) [] Try.f5.results.toList K) []) k (f5_S1 v)) = iterV (f5_L1 R_f7 R_f16 R_f13 R_f8 R_f11 R_f18 R_f21 R_f15 R_f20 k (fun u => K (f5_out u)) ) k :=
  iter_map (fun r1 v => (f5_L1_ev R_f7 R_f16 R_f13 R_f8 R_f11 R_f18 R_f21 R_f15 R_f20 hR_f7 hR_f16 hR_f13 hR_f8 hR_f11 hR_f18 hR_f21 hR_f15 hR_f20 k K  r1 v).trans (by rw [f5_L2_it R_f7 R_f16 R_f13 R_f8 R_f11 R_f18 R_f21 R_f15 R_f20 hR_f7 hR_f16 hR_f13 hR_f8 hR_f11 hR_f18 hR_f21 hR_f15 hR_f20 k K ]; rfl)) k
def f5_T {X : Type} (R_f7 : f7_R) (R_f16 : f16_R) (R_f13 : f13_R) (R_f8 : f8_R) (R_f11 : f11_R) (R_f18 : f18_R) (R_f21 : f21_R) (R_f15 : f15_R) (R_f20 : f20_R) (k : Nat) (K : Bool → Option X) (loop1 : (List CV) × Int × Int × Int × Int × Nat × Bool × (List CV) → Option X) (x0 : List CV) (x1 : Int) (x2 : Int) : Option X :=
R_f7 _ (fun u2 =>
(bif (!u2) then
K (false)
else
(bif (decide ((Nat.cast ((List.length x0)) : Int) > 4000)) then
K (true)
else
grd (decide (0 ≤ (Int.tmod (bop .and .i64 x1 1023) 7))) <|
R_f16 _ (fun u3 =>
loop1 (x0, (IntKind.wrap .i64 (16 * 2 ^ (min (Int.toNat (Int.tmod (bop .and .i64 x1 1023) 7)) 64))), x2, 0, u3.1, 0, false, u3.2)) ((Nat.cast ((List.length x0)) : Int))))) 
/-- "outpost/outpostlaw10.BlockBack" -/
def f5_A (R_f7 : f7_R) (R_f16 : f16_R) (R_f13 : f13_R) (R_f8 : f8_R) (R_f11 : f11_R) (R_f18 : f18_R) (R_f21 : f21_R) (R_f15 : f15_R) (R_f20 : f20_R) (k : Nat) : f5_R := fun X K x0 x1 x2 => f5_T R_f7 R_f16 R_f13 R_f8 R_f11 R_f18 R_f21 R_f15 R_f20 k K (iterV (f5_L1 R_f7 R_f16 R_f13 R_f8 R_f11 R_f18 R_f21 R_f15 R_f20 k K) k) x0 x1 x2
set_option maxRecDepth 100000 in
theorem f5_ev' {X : Type} (R_f7 : f7_R) (R_f16 : f16_R) (R_f13 : f13_R) (R_f8 : f8_R) (R_f11 : f11_R) (R_f18 : f18_R) (R_f21 : f21_R) (R_f15 : f15_R) (R_f20 : f20_R) (hR_f7 : AnsOk Try.prog 7 (f7_cOf R_f7)) (hR_f16 : AnsOk Try.prog 16 (f16_cOf R_f16)) (hR_f13 : AnsOk Try.prog 13 (f13_cOf R_f13)) (hR_f8 : AnsOk Try.prog 8 (f8_cOf R_f8)) (hR_f11 : AnsOk Try.prog 11 (f11_cOf R_f11)) (hR_f18 : AnsOk Try.prog 18 (f18_cOf R_f18)) (hR_f21 : AnsOk Try.prog 21 (f21_cOf R_f21)) (hR_f15 : AnsOk Try.prog 15 (f15_cOf R_f15)) (hR_f20 : AnsOk Try.prog 20 (f20_cOf R_f20)) (k : Nat) (K : Out → Option X) (x0 : List CV) (x1 : Int) (x2 : Int) : evFn (f5_cx R_f7 R_f16 R_f13 R_f8 R_f11 R_f18 R_f21 R_f15 R_f20 hR_f7 hR_f16 hR_f13 hR_f8 hR_f11 hR_f18 hR_f21 hR_f15 hR_f20) [] k Try.f5.ntmps Try.f5.results.toList (Try.f5.body.getD .skip) [(.sl true none x0), (.v (CV.int .i64 x1)), (.v (CV.int .i64 x2))] [] K = f5_T R_f7 R_f16 R_f13 R_f8 R_f11 R_f18 R_f21 R_f15 R_f20 k (fun u => K (f5_out u)) (fun v => iter (loopB (f5_cx R_f7 R_f16 R_f13 R_f8 R_f11 R_f18 R_f21 R_f15 R_f20 hR_f7 hR_f16 hR_f13 hR_f8 hR_f11 hR_f18 hR_f21 hR_f15 hR_f20) k [.r, .r, .r, .r, .r, .r, .l, .b] (Try.f5.body.getD .skip) (retK (f5_cx R_f7 R_f16 R_f13 R_f8 R_f11 R_f18 R_f21 R_f15 R_f20 hR_f7 hR_f16 hR_f13 hR_f8 hR_f11 hR_f18 hR_f21 hR_f15 hR_f20) [] Try.f5.results.toList K) []) k (f5_S1 v)) x0 x1 x2 := by kernel_rfl
theorem f5_ev {X : Type} (R_f7 : f7_R) (R_f16 : f16_R) (R_f13 : f13_R) (R_f8 : f8_R) (R_f11 : f11_R) (R_f18 : f18_R) (R_f21 : f21_R) (R_f15 : f15_R) (R_f20 : f20_R) (hR_f7 : AnsOk Try.prog 7 (f7_cOf R_f7)) (hR_f16 : AnsOk Try.prog 16 (f16_cOf R_f16)) (hR_f13 : AnsOk Try.prog 13 (f13_cOf R_f13)) (hR_f8 : AnsOk Try.prog 8 (f8_cOf R_f8)) (hR_f11 : AnsOk Try.prog 11 (f11_cOf R_f11)) (hR_f18 : AnsOk Try.prog 18 (f18_cOf R_f18)) (hR_f21 : AnsOk Try.prog 21 (f21_cOf R_f21)) (hR_f15 : AnsOk Try.prog 15 (f15_cOf R_f15)) (hR_f20 : AnsOk Try.prog 20 (f20_cOf R_f20)) (k : Nat) (K : Out → Option X) (x0 : List CV) (x1 : Int) (x2 : Int) : evFn (f5_cx R_f7 R_f16 R_f13 R_f8 R_f11 R_f18 R_f21 R_f15 R_f20 hR_f7 hR_f16 hR_f13 hR_f8 hR_f11 hR_f18 hR_f21 hR_f15 hR_f20) [] k Try.f5.ntmps Try.f5.results.toList (Try.f5.body.getD .skip) [(.sl true none x0), (.v (CV.int .i64 x1)), (.v (CV.int .i64 x2))] [] K = f5_A R_f7 R_f16 R_f13 R_f8 R_f11 R_f18 R_f21 R_f15 R_f20 k X (fun u => K (f5_out u)) x0 x1 x2 := (f5_ev' R_f7 R_f16 R_f13 R_f8 R_f11 R_f18 R_f21 R_f15 R_f20 hR_f7 hR_f16 hR_f13 hR_f8 hR_f11 hR_f18 hR_f21 hR_f15 hR_f20 k K x0 x1 x2).trans (by rw [f5_L1_it R_f7 R_f16 R_f13 R_f8 R_f11 R_f18 R_f21 R_f15 R_f20 hR_f7 hR_f16 hR_f13 hR_f8 hR_f11 hR_f18 hR_f21 hR_f15 hR_f20 k K]; rfl)
theorem f5_okA (R_f7 : f7_R) (R_f16 : f16_R) (R_f13 : f13_R) (R_f8 : f8_R) (R_f11 : f11_R) (R_f18 : f18_R) (R_f21 : f21_R) (R_f15 : f15_R) (R_f20 : f20_R) (hR_f7 : AnsOk Try.prog 7 (f7_cOf R_f7)) (hR_f16 : AnsOk Try.prog 16 (f16_cOf R_f16)) (hR_f13 : AnsOk Try.prog 13 (f13_cOf R_f13)) (hR_f8 : AnsOk Try.prog 8 (f8_cOf R_f8)) (hR_f11 : AnsOk Try.prog 11 (f11_cOf R_f11)) (hR_f18 : AnsOk Try.prog 18 (f18_cOf R_f18)) (hR_f21 : AnsOk Try.prog 21 (f21_cOf R_f21)) (hR_f15 : AnsOk Try.prog 15 (f15_cOf R_f15)) (hR_f20 : AnsOk Try.prog 20 (f20_cOf R_f20)) (k : Nat) : AnsOk Try.prog 5 (f5_cOf (f5_A R_f7 R_f16 R_f13 R_f8 R_f11 R_f18 R_f21 R_f15 R_f20 k)) := by
  intro X xs ns K x h
  unfold f5_cOf at h ⊢
  split at h
  · exact ans_main S (f5_Cok R_f7 R_f16 R_f13 R_f8 R_f11 R_f18 R_f21 R_f15 R_f20 hR_f7 hR_f16 hR_f13 hR_f8 hR_f11 hR_f18 hR_f21 hR_f15 hR_f20) Try.func5 (ent_of Try.func5 (by kernel_rfl) rfl) rfl (fun X K => f5_ev R_f7 R_f16 R_f13 R_f8 R_f11 R_f18 R_f21 R_f15 R_f20 hR_f7 hR_f16 hR_f13 hR_f8 hR_f11 hR_f18 hR_f21 hR_f15 hR_f20 k K _ _ _) h
  · cases h
/-- "outpost/outpostlaw10.BlockBack" -/
def f5 {X : Type} (k : Nat) (K : Bool → Option X) (x0 : List CV) (x1 : Int) (x2 : Int) : Option X := f5_A (fun X => @f7 X k) (fun X => @f16 X k) (fun X => @f13 X k) (fun X => @f8 X k) (fun X => @f11 X k) (fun X => @f18 X k) (fun X => @f21 X k) (fun X => @f15 X k) (fun X => @f20 X k) k X K x0 x1 x2
theorem f5_ok (k : Nat) : AnsOk Try.prog 5 (f5_cOf (fun X => @f5 X k)) := f5_okA (fun X => @f7 X k) (fun X => @f16 X k) (fun X => @f13 X k) (fun X => @f8 X k) (fun X => @f11 X k) (fun X => @f18 X k) (fun X => @f21 X k) (fun X => @f15 X k) (fun X => @f20 X k) (f7_ok k) (f16_ok k) (f13_ok k) (f8_ok k) (f11_ok k) (f18_ok k) (f21_ok k) (f15_ok k) (f20_ok k) k
abbrev f6_R : Type 1 := (X : Type) → (Bool → Option X) → (List CV) → Int → Bool → Option X
def f6_out (u : Bool) : Out := ⟨(.v (CV.bool u)), []⟩
def f6_cOf (R : f6_R) : FnC := fun X xs ns K => match xs, ns with
  | [(.sl true none x0), (.v (CV.int .i64 x1)), (.v (CV.bool x2))], [] => R X (fun u => K (f6_out u)) x0 x1 x2
  | _, _ => none
def f6_plan : Nat → Option (List Nat × List Wk)
  | 0 => some ([0, 1, 2], [])
  | 1 => some ([0, 1, 2], [])
  | 2 => some ([], [])
  | 3 => some ([0, 1, 2], [])
  | 4 => some ([], [])
  | 5 => some ([0, 1, 2], [])
  | 6 => some ([0, 2, 7], [])
  | 7 => some ([0, 2, 7, 8], [])
  | 8 => some ([0, 2, 7, 8, 9, 10, 11], [])
  | 9 => some ([0, 2, 7, 8, 10, 11, 12, 13], [])
  | 10 => some ([], [])
  | 11 => some ([0, 2, 7, 8, 12], [])
  | 12 => some ([0, 7, 8, 12], [])
  | 13 => some ([0, 7, 8, 12], [])
  | 14 => some ([0, 7, 8], [])
  | 15 => some ([0, 7, 8, 14], [])
  | 16 => some ([0, 7, 8, 9, 10, 11, 14], [])
  | 17 => some ([], [])
  | 18 => some ([0, 7, 8, 9, 10, 14], [])
  | 19 => some ([0, 7, 8, 12, 13], [])
  | 20 => some ([], [])
  | 21 => some ([0, 8], [])
  | _ => none
def f6_C (R_f7 : f7_R) (R_f16 : f16_R) (R_f13 : f13_R) (R_f18 : f18_R) (R_f20 : f20_R) (R_f21 : f21_R) (R_f15 : f15_R) : Fns := (orC 7 (f7_cOf R_f7) (orC 13 (f13_cOf R_f13) (orC 15 (f15_cOf R_f15) (orC 16 (f16_cOf R_f16) (orC 18 (f18_cOf R_f18) (orC 20 (f20_cOf R_f20) (orC 21 (f21_cOf R_f21) noC)))))))
theorem f6_Cok (R_f7 : f7_R) (R_f16 : f16_R) (R_f13 : f13_R) (R_f18 : f18_R) (R_f20 : f20_R) (R_f21 : f21_R) (R_f15 : f15_R) (hR_f7 : AnsOk Try.prog 7 (f7_cOf R_f7)) (hR_f16 : AnsOk Try.prog 16 (f16_cOf R_f16)) (hR_f13 : AnsOk Try.prog 13 (f13_cOf R_f13)) (hR_f18 : AnsOk Try.prog 18 (f18_cOf R_f18)) (hR_f20 : AnsOk Try.prog 20 (f20_cOf R_f20)) (hR_f21 : AnsOk Try.prog 21 (f21_cOf R_f21)) (hR_f15 : AnsOk Try.prog 15 (f15_cOf R_f15)) : CsOk Try.prog (f6_C R_f7 R_f16 R_f13 R_f18 R_f20 R_f21 R_f15) := (orC_ok hR_f7 (orC_ok hR_f13 (orC_ok hR_f15 (orC_ok hR_f16 (orC_ok hR_f18 (orC_ok hR_f20 (orC_ok hR_f21 noC_ok)))))))
def f6_cx (R_f7 : f7_R) (R_f16 : f16_R) (R_f13 : f13_R) (R_f18 : f18_R) (R_f20 : f20_R) (R_f21 : f21_R) (R_f15 : f15_R) (hR_f7 : AnsOk Try.prog 7 (f7_cOf R_f7)) (hR_f16 : AnsOk Try.prog 16 (f16_cOf R_f16)) (hR_f13 : AnsOk Try.prog 13 (f13_cOf R_f13)) (hR_f18 : AnsOk Try.prog 18 (f18_cOf R_f18)) (hR_f20 : AnsOk Try.prog 20 (f20_cOf R_f20)) (hR_f21 : AnsOk Try.prog 21 (f21_cOf R_f21)) (hR_f15 : AnsOk Try.prog 15 (f15_cOf R_f15)) : Cx := mkCx (tabOf rows) (f6_C R_f7 R_f16 R_f13 R_f18 R_f20 R_f21 R_f15) md (cmpIn cmps) f6_plan (f6_Cok R_f7 R_f16 R_f13 R_f18 R_f20 R_f21 R_f15 hR_f7 hR_f16 hR_f13 hR_f18 hR_f20 hR_f21 hR_f15)
def f6_S1 (v : (List CV) × Int × Bool × Int × Nat × Bool × (List CV)) : St := ⟨[(.sl true none v.1), .undef, .undef, .undef, .undef, .undef, .undef, (.v (CV.int .i64 v.2.1)), (.ptr [26] 0 0 0), .undef, .undef, .undef, (.v (CV.bool v.2.2.1)), .undef, .undef, .undef, .undef, .undef, .undef, .undef, .undef, .undef, .undef, .undef, .undef, .undef, .undef, .undef, .undef, .undef, .undef, .undef, .undef, .undef, .undef, .undef, .undef, .undef, .undef, .undef, .undef, .undef, .undef, .undef, .undef, .undef, .undef, .undef, .undef, .undef, .undef, .undef, .undef, .undef, .undef, .undef, .undef, .undef, .undef, .undef, .undef, .undef, .undef, .undef, .undef, .undef, .undef, .undef, .undef, .undef, .undef, .undef, .undef, .undef, .undef, .undef, .undef, .undef, .undef, .undef, .undef, .undef, .undef, .undef, .undef, .undef, .undef, .undef, .undef], [([26], (.obj [(.v (CV.int .i64 v.2.2.2.1)), (.osl [1, 26] none 0 v.2.2.2.2.1), (.v (CV.bool v.2.2.2.2.2.1))])), ([1, 26], (.row false none v.2.2.2.2.2.2))]⟩
def f6_J1 {X : Type} (R_f7 : f7_R) (R_f16 : f16_R) (R_f13 : f13_R) (R_f18 : f18_R) (R_f20 : f20_R) (R_f21 : f21_R) (R_f15 : f15_R) (k : Nat) (K : Bool → Option X) (loop1 : (List CV) × Int × Bool × Int × Nat × Bool × (List CV) → Option X) (u5 : Bool × Int × Int × Nat × Bool × (List CV)) (x0 : List CV) (v6 : Int) : Option X :=
loop1 (x0, v6, u5.1, u5.2.2.1, u5.2.2.2.1, u5.2.2.2.2.1, u5.2.2.2.2.2)
def f6_T1 {X : Type} (R_f7 : f7_R) (R_f16 : f16_R) (R_f13 : f13_R) (R_f18 : f18_R) (R_f20 : f20_R) (R_f21 : f21_R) (R_f15 : f15_R) (k : Nat) (K : Bool → Option X)   (rec1 : (List CV) × Int × Bool × Int × Nat × Bool × (List CV) → Option X) (v11_6 : (List CV) × Int × Bool × Int × Nat × Bool × (List CV)) : Option X :=
(bif (!v11_6.2.2.1) then
R_f20 _ (fun u11 =>
grd (v11_6.2.1 != 0) <|
R_f13 _ (fun u12 =>
(bif (!u12.2.2.1) then
K (false)
else
R_f18 _ (fun u13 =>
(bif (u13.2.1 != 0) then
K (false)
else
rec1 (v11_6.1, v11_6.2.1, u13.1, u13.2.2.1, u13.2.2.2.1, u13.2.2.2.2.1, u13.2.2.2.2.2))) ((CV.agg [(CV.int .i64 (IntKind.wrap .i64 (Int.tdiv u11.1 v11_6.2.1))), (CV.bool u12.2.1), (CV.int .i64 v11_6.2.1)])) ((List.take u12.1 (List.drop 0 u12.2.2.2))) (u11.2.1) (u11.2.2.1) (u11.2.2.2.1) (u11.2.2.2.2))) (v11_6.1) ((IntKind.wrap .i64 (Int.tdiv u11.1 v11_6.2.1))) (v11_6.2.1)) (v11_6.2.2.2.1) (v11_6.2.2.2.2.1) (v11_6.2.2.2.2.2.1) (v11_6.2.2.2.2.2.2)
else
R_f21 _ (fun u14 =>
R_f15 _ (fun u15 =>
K (u15)) ((List.take u14.1 (List.drop 0 u14.2.2.2.2.2))) (v11_6.1)) (v11_6.2.2.2.1) (v11_6.2.2.2.2.1) (v11_6.2.2.2.2.2.1) (v11_6.2.2.2.2.2.2))
def f6_L1 {X : Type} (R_f7 : f7_R) (R_f16 : f16_R) (R_f13 : f13_R) (R_f18 : f18_R) (R_f20 : f20_R) (R_f21 : f21_R) (R_f15 : f15_R) (k : Nat) (K : Bool → Option X)  (rec1 : (List CV) × Int × Bool × Int × Nat × Bool × (List CV) → Option X) (v : (List CV) × Int × Bool × Int × Nat × Bool × (List CV)) : Option X := f6_T1 R_f7 R_f16 R_f13 R_f18 R_f20 R_f21 R_f15 k K   rec1 v
set_option maxRecDepth 100000 in
theorem f6_L1_ev {X : Type} (R_f7 : f7_R) (R_f16 : f16_R) (R_f13 : f13_R) (R_f18 : f18_R) (R_f20 : f20_R) (R_f21 : f21_R) (R_f15 : f15_R) (hR_f7 : AnsOk Try.prog 7 (f7_cOf R_f7)) (hR_f16 : AnsOk Try.prog 16 (f16_cOf R_f16)) (hR_f13 : AnsOk Try.prog 13 (f13_cOf R_f13)) (hR_f18 : AnsOk Try.prog 18 (f18_cOf R_f18)) (hR_f20 : AnsOk Try.prog 20 (f20_cOf R_f20)) (hR_f21 : AnsOk Try.prog 21 (f21_cOf R_f21)) (hR_f15 : AnsOk Try.prog 15 (f15_cOf R_f15)) (k : Nat) (K : Out → Option X)  (r1 : St → Option X) (v : (List CV) × Int × Bool × Int × Nat × Bool × (List CV)) : loopB (f6_cx R_f7 R_f16 R_f13 R_f18 R_f20 R_f21 R_f15 hR_f7 hR_f16 hR_f13 hR_f18 hR_f20 hR_f21 hR_f15) k [.r, .r, .r, .r, .r, .r, .r, .r, .r, .l, .b] (Try.f6.body.getD .skip) (retK (f6_cx R_f7 R_f16 R_f13 R_f18 R_f20 R_f21 R_f15 hR_f7 hR_f16 hR_f13 hR_f18 hR_f20 hR_f21 hR_f15) [] Try.f6.results.toList K) [] r1 (f6_S1 v) = f6_T1 R_f7 R_f16 R_f13 R_f18 R_f20 R_f21 R_f15 k (fun u => K (f6_out u))   (fun v => r1 (f6_S1 v)) v := by kernel_rfl
theorem f6_L1_it {X : Type} (R_f7 : f7_R) (R_f16 : f16_R) (R_f13 : f13_R) (R_f18 : f18_R) (R_f20 : f20_R) (R_f21 : f21_R) (R_f15 : f15_R) (hR_f7 : AnsOk Try.prog 7 (f7_cOf R_f7)) (hR_f16 : AnsOk Try.prog 16 (f16_cOf R_f16)) (hR_f13 : AnsOk Try.prog 13 (f13_cOf R_f13)) (hR_f18 : AnsOk Try.prog 18 (f18_cOf R_f18)) (hR_f20 : AnsOk Try.prog 20 (f20_cOf R_f20)) (hR_f21 : AnsOk Try.prog 21 (f21_cOf R_f21)) (hR_f15 : AnsOk Try.prog 15 (f15_cOf R_f15)) (k : Nat) (K : Out → Option X)  : (fun v => iter (loopB (f6_cx R_f7 R_f16 R_f13 R_f18 R_f20 R_f21 R_f15 hR_f7 hR_f16 hR_f13 hR_f18 hR_f20 hR_f21 hR_f15) k [.r, .r, .r, .r, .r, .r, .r, .r, .r, .l, .b] (Try.f6.body.getD .skip) (retK (f6_cx R_f7 R_f16 R_f13 R_f18 R_f20 R_f21 R_f15 hR_f7 hR_f16 hR_f13 hR_f18 hR_f20 hR_f21 hR_f15) [] Try.f6.results.toList K) []) k (f6_S1 v)) = iterV (f6_L1 R_f7 R_f16 R_f13 R_f18 R_f20 R_f21 R_f15 k (fun u => K (f6_out u)) ) k :=
  iter_map (fun r1 v => (f6_L1_ev R_f7 R_f16 R_f13 R_f18 R_f20 R_f21 R_f15 hR_f7 hR_f16 hR_f13 hR_f18 hR_f20 hR_f21 hR_f15 k K  r1 v).trans rfl) k
def f6_T {X : Type} (R_f7 : f7_R) (R_f16 : f16_R) (R_f13 : f13_R) (R_f18 : f18_R) (R_f20 : f20_R) (R_f21 : f21_R) (R_f15 : f15_R) (k : Nat) (K : Bool → Option X) (loop1 : (List CV) × Int × Bool × Int × Nat × Bool × (List CV) → Option X) (x0 : List CV) (x1 : Int) (x2 : Bool) : Option X :=
R_f7 _ (fun u2 =>
(bif (!u2) then
K (false)
else
(bif (decide ((Nat.cast ((List.length x0)) : Int) > 2000)) then
K (true)
else
grd (decide (0 ≤ (Int.tmod (bop .and .i64 x1 1023) 6))) <|
R_f16 _ (fun u3 =>
R_f13 _ (fun u4 =>
R_f18 _ (fun u5 =>
(bif (!u4.2.2.1) then
K (false)
else
(bif (u5.2.1 != 0) then
K (false)
else
(bif (u5.1 == u4.2.1) then
K (false)
else
(bif x2 then
f6_J1 R_f7 R_f16 R_f13 R_f18 R_f20 R_f21 R_f15 k K loop1 u5 x0 ((IntKind.wrap .i64 (Int.tdiv (IntKind.wrap .i64 (32 * 2 ^ (min (Int.toNat (Int.tmod (bop .and .i64 x1 1023) 6)) 64))) 2)))
else
f6_J1 R_f7 R_f16 R_f13 R_f18 R_f20 R_f21 R_f15 k K loop1 u5 x0 ((IntKind.wrap .i64 (32 * 2 ^ (min (Int.toNat (Int.tmod (bop .and .i64 x1 1023) 6)) 64))))))))) ((CV.agg [(CV.int .i64 0), (CV.bool u4.2.1), (CV.int .i64 (IntKind.wrap .i64 (32 * 2 ^ (min (Int.toNat (Int.tmod (bop .and .i64 x1 1023) 6)) 64))))])) ((List.take u4.1 (List.drop 0 u4.2.2.2))) (u3.1) (0) (false) (u3.2)) (x0) (0) ((IntKind.wrap .i64 (32 * 2 ^ (min (Int.toNat (Int.tmod (bop .and .i64 x1 1023) 6)) 64))))) ((Nat.cast ((List.length x0)) : Int))))) 
/-- "outpost/outpostlaw10.BlockMixes" -/
def f6_A (R_f7 : f7_R) (R_f16 : f16_R) (R_f13 : f13_R) (R_f18 : f18_R) (R_f20 : f20_R) (R_f21 : f21_R) (R_f15 : f15_R) (k : Nat) : f6_R := fun X K x0 x1 x2 => f6_T R_f7 R_f16 R_f13 R_f18 R_f20 R_f21 R_f15 k K (iterV (f6_L1 R_f7 R_f16 R_f13 R_f18 R_f20 R_f21 R_f15 k K) k) x0 x1 x2
set_option maxRecDepth 100000 in
theorem f6_ev' {X : Type} (R_f7 : f7_R) (R_f16 : f16_R) (R_f13 : f13_R) (R_f18 : f18_R) (R_f20 : f20_R) (R_f21 : f21_R) (R_f15 : f15_R) (hR_f7 : AnsOk Try.prog 7 (f7_cOf R_f7)) (hR_f16 : AnsOk Try.prog 16 (f16_cOf R_f16)) (hR_f13 : AnsOk Try.prog 13 (f13_cOf R_f13)) (hR_f18 : AnsOk Try.prog 18 (f18_cOf R_f18)) (hR_f20 : AnsOk Try.prog 20 (f20_cOf R_f20)) (hR_f21 : AnsOk Try.prog 21 (f21_cOf R_f21)) (hR_f15 : AnsOk Try.prog 15 (f15_cOf R_f15)) (k : Nat) (K : Out → Option X) (x0 : List CV) (x1 : Int) (x2 : Bool) : evFn (f6_cx R_f7 R_f16 R_f13 R_f18 R_f20 R_f21 R_f15 hR_f7 hR_f16 hR_f13 hR_f18 hR_f20 hR_f21 hR_f15) [] k Try.f6.ntmps Try.f6.results.toList (Try.f6.body.getD .skip) [(.sl true none x0), (.v (CV.int .i64 x1)), (.v (CV.bool x2))] [] K = f6_T R_f7 R_f16 R_f13 R_f18 R_f20 R_f21 R_f15 k (fun u => K (f6_out u)) (fun v => iter (loopB (f6_cx R_f7 R_f16 R_f13 R_f18 R_f20 R_f21 R_f15 hR_f7 hR_f16 hR_f13 hR_f18 hR_f20 hR_f21 hR_f15) k [.r, .r, .r, .r, .r, .r, .r, .r, .r, .l, .b] (Try.f6.body.getD .skip) (retK (f6_cx R_f7 R_f16 R_f13 R_f18 R_f20 R_f21 R_f15 hR_f7 hR_f16 hR_f13 hR_f18 hR_f20 hR_f21 hR_f15) [] Try.f6.results.toList K) []) k (f6_S1 v)) x0 x1 x2 := by kernel_rfl
theorem f6_ev {X : Type} (R_f7 : f7_R) (R_f16 : f16_R) (R_f13 : f13_R) (R_f18 : f18_R) (R_f20 : f20_R) (R_f21 : f21_R) (R_f15 : f15_R) (hR_f7 : AnsOk Try.prog 7 (f7_cOf R_f7)) (hR_f16 : AnsOk Try.prog 16 (f16_cOf R_f16)) (hR_f13 : AnsOk Try.prog 13 (f13_cOf R_f13)) (hR_f18 : AnsOk Try.prog 18 (f18_cOf R_f18)) (hR_f20 : AnsOk Try.prog 20 (f20_cOf R_f20)) (hR_f21 : AnsOk Try.prog 21 (f21_cOf R_f21)) (hR_f15 : AnsOk Try.prog 15 (f15_cOf R_f15)) (k : Nat) (K : Out → Option X) (x0 : List CV) (x1 : Int) (x2 : Bool) : evFn (f6_cx R_f7 R_f16 R_f13 R_f18 R_f20 R_f21 R_f15 hR_f7 hR_f16 hR_f13 hR_f18 hR_f20 hR_f21 hR_f15) [] k Try.f6.ntmps Try.f6.results.toList (Try.f6.body.getD .skip) [(.sl true none x0), (.v (CV.int .i64 x1)), (.v (CV.bool x2))] [] K = f6_A R_f7 R_f16 R_f13 R_f18 R_f20 R_f21 R_f15 k X (fun u => K (f6_out u)) x0 x1 x2 := (f6_ev' R_f7 R_f16 R_f13 R_f18 R_f20 R_f21 R_f15 hR_f7 hR_f16 hR_f13 hR_f18 hR_f20 hR_f21 hR_f15 k K x0 x1 x2).trans (by rw [f6_L1_it R_f7 R_f16 R_f13 R_f18 R_f20 R_f21 R_f15 hR_f7 hR_f16 hR_f13 hR_f18 hR_f20 hR_f21 hR_f15 k K]; rfl)
theorem f6_okA (R_f7 : f7_R) (R_f16 : f16_R) (R_f13 : f13_R) (R_f18 : f18_R) (R_f20 : f20_R) (R_f21 : f21_R) (R_f15 : f15_R) (hR_f7 : AnsOk Try.prog 7 (f7_cOf R_f7)) (hR_f16 : AnsOk Try.prog 16 (f16_cOf R_f16)) (hR_f13 : AnsOk Try.prog 13 (f13_cOf R_f13)) (hR_f18 : AnsOk Try.prog 18 (f18_cOf R_f18)) (hR_f20 : AnsOk Try.prog 20 (f20_cOf R_f20)) (hR_f21 : AnsOk Try.prog 21 (f21_cOf R_f21)) (hR_f15 : AnsOk Try.prog 15 (f15_cOf R_f15)) (k : Nat) : AnsOk Try.prog 6 (f6_cOf (f6_A R_f7 R_f16 R_f13 R_f18 R_f20 R_f21 R_f15 k)) := by
  intro X xs ns K x h
  unfold f6_cOf at h ⊢
  split at h
  · exact ans_main S (f6_Cok R_f7 R_f16 R_f13 R_f18 R_f20 R_f21 R_f15 hR_f7 hR_f16 hR_f13 hR_f18 hR_f20 hR_f21 hR_f15) Try.func6 (ent_of Try.func6 (by kernel_rfl) rfl) rfl (fun X K => f6_ev R_f7 R_f16 R_f13 R_f18 R_f20 R_f21 R_f15 hR_f7 hR_f16 hR_f13 hR_f18 hR_f20 hR_f21 hR_f15 k K _ _ _) h
  · cases h
/-- "outpost/outpostlaw10.BlockMixes" -/
def f6 {X : Type} (k : Nat) (K : Bool → Option X) (x0 : List CV) (x1 : Int) (x2 : Bool) : Option X := f6_A (fun X => @f7 X k) (fun X => @f16 X k) (fun X => @f13 X k) (fun X => @f18 X k) (fun X => @f20 X k) (fun X => @f21 X k) (fun X => @f15 X k) k X K x0 x1 x2
theorem f6_ok (k : Nat) : AnsOk Try.prog 6 (f6_cOf (fun X => @f6 X k)) := f6_okA (fun X => @f7 X k) (fun X => @f16 X k) (fun X => @f13 X k) (fun X => @f18 X k) (fun X => @f20 X k) (fun X => @f21 X k) (fun X => @f15 X k) (f7_ok k) (f16_ok k) (f13_ok k) (f18_ok k) (f20_ok k) (f21_ok k) (f15_ok k) k
end Go.Proofs.YtidniahglagllaaD
