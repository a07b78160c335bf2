/- Functions of the program, as plain Lean functions: each with the proof that the evaluator computes it. (Printed by wip/dec/dec.py.) -/
import Derived.Test.YtpdeankgekknaaaTN
import Derived.Test.YtpdeankgekknaaaTO
import Derived.Test.YtpdeankgekknaaaTQ
import Derived.Test.YtpdeankgekknaaaProg
import Derived.Test.YtpdeankgekknaaaChecked
namespace Go.Proofs.YtpdeankgekknaaaD
open Go Go.Proofs.YtpdeankgekknaaaS Go.Proofs
set_option linter.unusedVariables false
def rows : List (Nat × TI) := [
  (3, ⟨(.int .i64), 1, 8, .v (.int .i64 0)⟩),
  (4, ⟨.bool, 1, 1, .v (.bool false)⟩),
  (5, ⟨(.int .u8), 1, 1, .v (.int .u8 0)⟩),
  (23, ⟨(.ptr 49), 1, 8, .v .nilp⟩),
  (25, ⟨(.slice 5), 1, 24, .nil0 none⟩),
  (26, ⟨(.int .i64), 1, 8, .v (.int .i64 0)⟩),
  (32, ⟨(.slice 35), 1, 24, .nil0 (some 4)⟩),
  (35, ⟨(.struct [(0, 3), (1, 3), (2, 3), (3, 25)]), 4, 48, .agg [.v (.int .i64 0), .v (.int .i64 0), .v (.int .i64 0), .nil0 none]⟩),
  (47, ⟨(.slice 3), 1, 24, .nil0 none⟩),
  (49, ⟨(.struct [(0, 25), (1, 3), (2, 47), (3, 3), (4, 3), (5, 4)]), 6, 80, .agg [.nil0 none, .v (.int .i64 0), .nil0 none, .v (.int .i64 0), .v (.int .i64 0), .v (.bool false)]⟩),
  (52, ⟨(.int .u64), 1, 8, .v (.int .u64 0)⟩),
  (59, ⟨(.int .u64), 1, 8, .v (.int .u64 0)⟩)]
set_option maxRecDepth 100000 in
theorem rows_ok : rowsAre Try.prog rows = true := by kernel_rfl
def cmps : List Nat := []
theorem cmps_ok : cmpsAre Try.prog cmps = true := by kernel_rfl
def S : Seat Try.prog := ⟨rows, rows_ok, Try.checked.mixed, cmps, cmps_ok⟩
def md (g : FuncId) (i : Nat) : Nat := 0
def setCell {X : Type} (e : CV) (j : Nat) (c : CV) (K : CV → Option X) : Option X := match e with
  | .agg ds => grd (Nat.blt j ds.length) (K (.agg (ds.set j c)))
  | _ => none
abbrev f32_R : Type 1 := (X : Type) → (Int × Int → Option X) → Int → Int → Option X
def f32_out (u : Int × Int) : Out := ⟨(.tup [(.v (CV.int .u64 u.1)), (.v (CV.int .u64 u.2))]), []⟩
def f32_cOf (R : f32_R) : FnC := fun X xs ns K => match xs, ns with
  | [(.v (CV.int .u64 x0)), (.v (CV.int .u64 x1))], [] => R X (fun u => K (f32_out u)) x0 x1
  | _, _ => none
def f32_plan : Nat → Option (List Nat × List Wk)
  | 0 => some ([0, 1], [])
  | 1 => some ([0, 1], [])
  | 2 => some ([0, 1, 6], [])
  | 3 => some ([0, 1, 6, 7], [])
  | 4 => some ([0, 1, 6, 7, 8], [])
  | 5 => some ([0, 1, 6, 7, 8, 9], [])
  | 6 => some ([0, 1, 6, 7, 8, 9, 10], [])
  | 7 => some ([0, 1, 6, 7, 9, 11], [])
  | 8 => some ([0, 1, 6, 7, 9, 11, 12], [])
  | 9 => some ([0, 1, 6, 7, 9, 12, 13], [])
  | 10 => some ([0, 1, 7, 9, 12, 13], [])
  | 11 => some ([0, 1, 4], [])
  | _ => none
def f32_C : Fns := noC
theorem f32_Cok : CsOk Try.prog (f32_C) := noC_ok
def f32_cx : Cx := mkCx (tabOf rows) (f32_C) md (cmpIn cmps) f32_plan (f32_Cok)
def f32_T {X : Type} (k : Nat) (K : Int × Int → Option X)  (x0 : Int) (x1 : Int) : Option X :=
K ((IntKind.wrap .u64 ((IntKind.wrap .u64 ((IntKind.wrap .u64 ((Int.fdiv x0 (2 ^ 32)) * (Int.fdiv x1 (2 ^ 32)))) + (Int.fdiv (IntKind.wrap .u64 ((IntKind.wrap .u64 ((Int.fdiv x0 (2 ^ 32)) * (bop .and .u64 x1 4294967295))) + (Int.fdiv (IntKind.wrap .u64 ((bop .and .u64 x0 4294967295) * (bop .and .u64 x1 4294967295))) (2 ^ 32)))) (2 ^ 32)))) + (Int.fdiv (IntKind.wrap .u64 ((bop .and .u64 (IntKind.wrap .u64 ((IntKind.wrap .u64 ((Int.fdiv x0 (2 ^ 32)) * (bop .and .u64 x1 4294967295))) + (Int.fdiv (IntKind.wrap .u64 ((bop .and .u64 x0 4294967295) * (bop .and .u64 x1 4294967295))) (2 ^ 32)))) 4294967295) + (IntKind.wrap .u64 ((bop .and .u64 x0 4294967295) * (Int.fdiv x1 (2 ^ 32)))))) (2 ^ 32)))), (IntKind.wrap .u64 (x0 * x1)))
/-- "math/bits.Mul64" -/
def f32_A (k : Nat) : f32_R := fun X K x0 x1 => f32_T k K  x0 x1
set_option maxRecDepth 100000 in
theorem f32_ev' {X : Type} (k : Nat) (K : Out → Option X) (x0 : Int) (x1 : Int) : evFn (f32_cx) [] k Try.f32.ntmps Try.f32.results.toList (Try.f32.body.getD .skip) [(.v (CV.int .u64 x0)), (.v (CV.int .u64 x1))] [] K = f32_T k (fun u => K (f32_out u)) x0 x1 := by kernel_rfl
theorem f32_ev {X : Type} (k : Nat) (K : Out → Option X) (x0 : Int) (x1 : Int) : evFn (f32_cx) [] k Try.f32.ntmps Try.f32.results.toList (Try.f32.body.getD .skip) [(.v (CV.int .u64 x0)), (.v (CV.int .u64 x1))] [] K = f32_A k X (fun u => K (f32_out u)) x0 x1 := (f32_ev' k K x0 x1).trans rfl
theorem f32_okA (k : Nat) : AnsOk Try.prog 32 (f32_cOf (f32_A k)) := by
  intro X xs ns K x h
  unfold f32_cOf at h ⊢
  split at h
  · exact ans_main S (f32_Cok) Try.func32 (ent_of Try.func32 (by kernel_rfl) rfl) rfl (fun X K => f32_ev k K _ _) h
  · cases h
/-- "math/bits.Mul64" -/
def f32 {X : Type} (k : Nat) (K : Int × Int → Option X) (x0 : Int) (x1 : Int) : Option X := f32_A k X K x0 x1
theorem f32_ok (k : Nat) : AnsOk Try.prog 32 (f32_cOf (fun X => @f32 X k)) := f32_okA k
abbrev f29_R : Type 1 := (X : Type) → (Int × Int → Option X) → Int → Int → Option X
def f29_out (u : Int × Int) : Out := ⟨(.tup [(.v (CV.int .u64 u.1)), (.v (CV.int .u64 u.2))]), []⟩
def f29_cOf (R : f29_R) : FnC := fun X xs ns K => match xs, ns with
  | [(.v (CV.int .u64 x0)), (.v (CV.int .u64 x1))], [] => R X (fun u => K (f29_out u)) x0 x1
  | _, _ => none
def f29_plan : Nat → Option (List Nat × List Wk)
  | 0 => some ([0, 1], [])
  | 1 => some ([0, 1], [])
  | 2 => some ([6, 7], [])
  | 3 => some ([0, 1], [])
  | 4 => some ([8, 9], [])
  | _ => none
def f29_C (R_f32 : f32_R) : Fns := (orC 32 (f32_cOf R_f32) noC)
theorem f29_Cok (R_f32 : f32_R) (hR_f32 : AnsOk Try.prog 32 (f32_cOf R_f32)) : CsOk Try.prog (f29_C R_f32) := (orC_ok hR_f32 noC_ok)
def f29_cx (R_f32 : f32_R) (hR_f32 : AnsOk Try.prog 32 (f32_cOf R_f32)) : Cx := mkCx (tabOf rows) (f29_C R_f32) md (cmpIn cmps) f29_plan (f29_Cok R_f32 hR_f32)
def f29_T {X : Type} (R_f32 : f32_R) (k : Nat) (K : Int × Int → Option X)  (x0 : Int) (x1 : Int) : Option X :=
R_f32 _ (fun u1 =>
K (u1.1, u1.2)) (x0) (x1)
/-- "math/bits.Mul" -/
def f29_A (R_f32 : f32_R) (k : Nat) : f29_R := fun X K x0 x1 => f29_T R_f32 k K  x0 x1
set_option maxRecDepth 100000 in
theorem f29_ev' {X : Type} (R_f32 : f32_R) (hR_f32 : AnsOk Try.prog 32 (f32_cOf R_f32)) (k : Nat) (K : Out → Option X) (x0 : Int) (x1 : Int) : evFn (f29_cx R_f32 hR_f32) [] k Try.f29.ntmps Try.f29.results.toList (Try.f29.body.getD .skip) [(.v (CV.int .u64 x0)), (.v (CV.int .u64 x1))] [] K = f29_T R_f32 k (fun u => K (f29_out u)) x0 x1 := by kernel_rfl
theorem f29_ev {X : Type} (R_f32 : f32_R) (hR_f32 : AnsOk Try.prog 32 (f32_cOf R_f32)) (k : Nat) (K : Out → Option X) (x0 : Int) (x1 : Int) : evFn (f29_cx R_f32 hR_f32) [] k Try.f29.ntmps Try.f29.results.toList (Try.f29.body.getD .skip) [(.v (CV.int .u64 x0)), (.v (CV.int .u64 x1))] [] K = f29_A R_f32 k X (fun u => K (f29_out u)) x0 x1 := (f29_ev' R_f32 hR_f32 k K x0 x1).trans rfl
theorem f29_okA (R_f32 : f32_R) (hR_f32 : AnsOk Try.prog 32 (f32_cOf R_f32)) (k : Nat) : AnsOk Try.prog 29 (f29_cOf (f29_A R_f32 k)) := by
  intro X xs ns K x h
  unfold f29_cOf at h ⊢
  split at h
  · exact ans_main S (f29_Cok R_f32 hR_f32) Try.func29 (ent_of Try.func29 (by kernel_rfl) rfl) rfl (fun X K => f29_ev R_f32 hR_f32 k K _ _) h
  · cases h
/-- "math/bits.Mul" -/
def f29 {X : Type} (k : Nat) (K : Int × Int → Option X) (x0 : Int) (x1 : Int) : Option X := f29_A (fun X => @f32 X k) k X K x0 x1
theorem f29_ok (k : Nat) : AnsOk Try.prog 29 (f29_cOf (fun X => @f29 X k)) := f29_okA (fun X => @f32 X k) (f32_ok k) k
/-- "internal/bytealg.MakeNoZero" -/
def f30 {X : Type} (k : Nat) (K : Nat × List CV → Option X) (x0 : Int) : Option X := grd (decide (0 ≤ x0)) (grd (decide (x0 ≤ 281474976710656)) (K (x0.toNat, List.replicate x0.toNat .any)))
def f30_out (u : Nat × List CV) : Out := ⟨.osl [2000] none 0 u.1, [([2000], .row false none u.2)]⟩
abbrev f30_R : Type 1 := (X : Type) → (Nat × List CV → Option X) → Int → Option X
def f30_cOf (R : f30_R) : FnC := fun X xs ns K => match xs, ns with
  | [.v (.int .i64 x0)], [] => R X (fun u => K (f30_out u)) x0
  | _, _ => none
theorem f30_ok (k : Nat) : AnsOk Try.prog 30 (f30_cOf (fun X => @f30 X k)) := by
  intro X xs ns K x h
  unfold f30_cOf at h ⊢
  split at h
  · next x0 =>
    have h : grd (decide (0 ≤ x0)) (grd (decide (x0 ≤ 281474976710656)) (K (f30_out (x0.toNat, List.replicate x0.toNat .any)))) = some x := h
    obtain ⟨h1, h2⟩ := grd_some h
    obtain ⟨h3, h4⟩ := grd_some h2
    exact ⟨trivial, _, mnz_ans (ps := #[3]) Try.func30 (by kernel_rfl) rfl (by kernel_rfl) (by kernel_rfl) Try.underlying25 h, h4, fun Y K' => by show grd _ (grd _ _) = _; rw [h1, h3]; rfl⟩
  · cases h
abbrev f24_R : Type 1 := (X : Type) → (Nat × (List CV) → Option X) → (List CV) → Int → Option X
def f24_out (u : Nat × (List CV)) : Out := ⟨(.osl [2000] none 0 u.1), [([2000], (.row false none u.2))]⟩
def f24_cOf (R : f24_R) : FnC := fun X xs ns K => match xs, ns with
  | [(.sl false none x0), (.v (CV.int .i64 x1))], [] => R X (fun u => K (f24_out u)) x0 x1
  | _, _ => none
def f24_plan : Nat → Option (List Nat × List Wk)
  | 0 => some ([0, 1], [])
  | 1 => some ([0, 1], [])
  | 2 => some ([], [])
  | 3 => some ([0, 1], [])
  | 4 => some ([0, 1], [])
  | 5 => some ([0, 1], [])
  | 6 => some ([0, 5, 6], [])
  | 7 => some ([0, 6], [])
  | 8 => some ([0, 6], [])
  | 9 => some ([0, 7], [])
  | 10 => some ([], [])
  | 11 => some ([0, 7], [])
  | 12 => some ([0, 7, 8], [])
  | 13 => some ([0, 7], [])
  | 14 => some ([0, 7, 8], [])
  | 15 => some ([0, 7], [])
  | 16 => some ([0, 7, 8], [])
  | 17 => some ([0, 7, 8, 9], [])
  | 18 => some ([7, 8, 9, 10], [])
  | 19 => some ([7, 8, 9, 10], [])
  | 20 => some ([7, 8, 9, 10, 11], [])
  | 21 => some ([9], [])
  | _ => none
def f24_C (R_f29 : f29_R) (R_f30 : f30_R) : Fns := (orC 29 (f29_cOf R_f29) (orC 30 (f30_cOf R_f30) noC))
theorem f24_Cok (R_f29 : f29_R) (R_f30 : f30_R) (hR_f29 : AnsOk Try.prog 29 (f29_cOf R_f29)) (hR_f30 : AnsOk Try.prog 30 (f30_cOf R_f30)) : CsOk Try.prog (f24_C R_f29 R_f30) := (orC_ok hR_f29 (orC_ok hR_f30 noC_ok))
def f24_cx (R_f29 : f29_R) (R_f30 : f30_R) (hR_f29 : AnsOk Try.prog 29 (f29_cOf R_f29)) (hR_f30 : AnsOk Try.prog 30 (f30_cOf R_f30)) : Cx := mkCx (tabOf rows) (f24_C R_f29 R_f30) md (cmpIn cmps) f24_plan (f24_Cok R_f29 R_f30 hR_f29 hR_f30)
def f24_S1 (v : Int × Int × Nat × Int × (List CV)) : St := ⟨[.undef, .undef, .undef, .undef, .undef, .undef, .undef, (.v (CV.int .i64 v.1)), (.v (CV.int .i64 v.2.1)), (.osl [9] none 0 v.2.2.1), (.v (CV.int .i64 v.2.2.2.1)), .undef, .undef, .undef, .undef, .undef, .undef, .undef, .undef, .undef, .undef, .undef, .undef, .undef, .undef, .undef, .undef, .undef, .undef, .undef, .undef, .undef, .undef, .undef, .undef, .undef, .undef, .undef, .undef, .undef, .undef, .undef, .undef, .undef, .undef, .undef, .undef, .undef, .undef, .undef, .undef, .undef, .undef, .undef, .undef, .undef, .undef, .undef, .undef, .undef, .undef, .undef, .undef, .undef, .undef, .undef, .undef, .undef, .undef, .undef, .undef, .undef, .undef, .undef, .undef, .undef, .undef], [([9], (.row false none v.2.2.2.2))]⟩
def f24_J1 {X : Type} (R_f29 : f29_R) (R_f30 : f30_R) (k : Nat) (K : Nat × (List CV) → Option X) (loop1 : Int × Int × Nat × Int × (List CV) → Option X) (u1 : Int × Int) (x0 : List CV) (v2 : Int) : Option X :=
R_f30 _ (fun u3 =>
grd (decide (0 ≤ (IntKind.wrap .i64 u1.2))) <|
grd (decide ((IntKind.wrap .i64 u1.2) ≤ (IntKind.wrap .i64 u1.2))) <|
grd (decide ((IntKind.wrap .i64 u1.2) ≤ ((Nat.cast ((List.length u3.2)) : Int) - (0 : Int)))) <|
(bif (decide ((IntKind.wrap .i64 u1.2) = ((Nat.cast ((List.length u3.2)) : Int) - (0 : Int)))) then
grd (decide ((0 + ((Int.toNat (IntKind.wrap .i64 u1.2)) - 0)) ≤ (List.length u3.2))) <|
loop1 ((IntKind.wrap .i64 u1.2), v2, ((Int.toNat (IntKind.wrap .i64 u1.2)) - 0), (Nat.cast ((min (List.length x0) ((Int.toNat (IntKind.wrap .i64 u1.2)) - 0))) : Int), ((List.take 0 u3.2) ++ (List.take (min (List.length x0) ((Int.toNat (IntKind.wrap .i64 u1.2)) - 0)) x0) ++ (List.drop (0 + (min (List.length x0) ((Int.toNat (IntKind.wrap .i64 u1.2)) - 0))) u3.2)))
else
none)) ((IntKind.wrap .i64 u1.2))
def f24_T1 {X : Type} (R_f29 : f29_R) (R_f30 : f30_R) (k : Nat) (K : Nat × (List CV) → Option X)   (rec1 : Int × Int × Nat × Int × (List CV) → Option X) (v13_3 : Int × Int × Nat × Int × (List CV)) : Option X :=
(bif (decide (v13_3.2.2.2.1 < v13_3.1)) then
grd (decide (0 ≤ v13_3.2.2.2.1)) <|
grd (decide (v13_3.2.2.2.1 ≤ (Nat.cast (v13_3.2.2.1) : Int))) <|
grd (decide ((Nat.cast (v13_3.2.2.1) : Int) ≤ (Nat.cast (v13_3.2.2.1) : Int))) <|
grd (decide (0 ≤ (if v13_3.2.1 < v13_3.2.2.2.1 then v13_3.2.1 else v13_3.2.2.2.1))) <|
grd (decide ((if v13_3.2.1 < v13_3.2.2.2.1 then v13_3.2.1 else v13_3.2.2.2.1) ≤ ((Nat.cast ((List.length v13_3.2.2.2.2)) : Int) - 0))) <|
grd (decide (((0 + (Int.toNat v13_3.2.2.2.1)) + (v13_3.2.2.1 - (Int.toNat v13_3.2.2.2.1))) ≤ (List.length v13_3.2.2.2.2))) <|
rec1 (v13_3.1, v13_3.2.1, v13_3.2.2.1, (IntKind.wrap .i64 (v13_3.2.2.2.1 + (Nat.cast ((min (List.length (List.take ((Int.toNat (if v13_3.2.1 < v13_3.2.2.2.1 then v13_3.2.1 else v13_3.2.2.2.1)) - 0) (List.drop 0 v13_3.2.2.2.2))) (v13_3.2.2.1 - (Int.toNat v13_3.2.2.2.1)))) : Int))), ((List.take (0 + (Int.toNat v13_3.2.2.2.1)) v13_3.2.2.2.2) ++ (List.take (min (List.length (List.take ((Int.toNat (if v13_3.2.1 < v13_3.2.2.2.1 then v13_3.2.1 else v13_3.2.2.2.1)) - 0) (List.drop 0 v13_3.2.2.2.2))) (v13_3.2.2.1 - (Int.toNat v13_3.2.2.2.1))) (List.take ((Int.toNat (if v13_3.2.1 < v13_3.2.2.2.1 then v13_3.2.1 else v13_3.2.2.2.1)) - 0) (List.drop 0 v13_3.2.2.2.2))) ++ (List.drop ((0 + (Int.toNat v13_3.2.2.2.1)) + (min (List.length (List.take ((Int.toNat (if v13_3.2.1 < v13_3.2.2.2.1 then v13_3.2.1 else v13_3.2.2.2.1)) - 0) (List.drop 0 v13_3.2.2.2.2))) (v13_3.2.2.1 - (Int.toNat v13_3.2.2.2.1)))) v13_3.2.2.2.2)))
else
K (v13_3.2.2.1, (List.take (0 + v13_3.2.2.1) v13_3.2.2.2.2)))
def f24_L1 {X : Type} (R_f29 : f29_R) (R_f30 : f30_R) (k : Nat) (K : Nat × (List CV) → Option X)  (rec1 : Int × Int × Nat × Int × (List CV) → Option X) (v : Int × Int × Nat × Int × (List CV)) : Option X := f24_T1 R_f29 R_f30 k K   rec1 v
set_option maxRecDepth 100000 in
theorem f24_L1_ev {X : Type} (R_f29 : f29_R) (R_f30 : f30_R) (hR_f29 : AnsOk Try.prog 29 (f29_cOf R_f29)) (hR_f30 : AnsOk Try.prog 30 (f30_cOf R_f30)) (k : Nat) (K : Out → Option X)  (r1 : St → Option X) (v : Int × Int × Nat × Int × (List CV)) : loopB (f24_cx R_f29 R_f30 hR_f29 hR_f30) k [.r, .r, .r, .r, .r, .r, .r, .r, .r, .r, .r, .l, .b] (Try.f24.body.getD .skip) (retK (f24_cx R_f29 R_f30 hR_f29 hR_f30) [] Try.f24.results.toList K) [] r1 (f24_S1 v) = f24_T1 R_f29 R_f30 k (fun u => K (f24_out u))   (fun v => r1 (f24_S1 v)) v := by kernel_rfl
theorem f24_L1_it {X : Type} (R_f29 : f29_R) (R_f30 : f30_R) (hR_f29 : AnsOk Try.prog 29 (f29_cOf R_f29)) (hR_f30 : AnsOk Try.prog 30 (f30_cOf R_f30)) (k : Nat) (K : Out → Option X)  : (fun v => iter (loopB (f24_cx R_f29 R_f30 hR_f29 hR_f30) k [.r, .r, .r, .r, .r, .r, .r, .r, .r, .r, .r, .l, .b] (Try.f24.body.getD .skip) (retK (f24_cx R_f29 R_f30 hR_f29 hR_f30) [] Try.f24.results.toList K) []) k (f24_S1 v)) = iterV (f24_L1 R_f29 R_f30 k (fun u => K (f24_out u)) ) k :=
  iter_map (fun r1 v => (f24_L1_ev R_f29 R_f30 hR_f29 hR_f30 k K  r1 v).trans rfl) k
def f24_T {X : Type} (R_f29 : f29_R) (R_f30 : f30_R) (k : Nat) (K : Nat × (List CV) → Option X) (loop1 : Int × Int × Nat × Int × (List CV) → Option X) (x0 : List CV) (x1 : Int) : Option X :=
(bif (x1 == 0) then
K (0, (List.take 0 []))
else
(bif (decide (x1 < 0)) then
none
else
R_f29 _ (fun u1 =>
(bif (decide (u1.1 > 0)) then
none
else
(bif (decide (u1.2 > 9223372036854775807)) then
none
else
(bif ((Nat.cast ((List.length x0)) : Int) == 0) then
K (0, (List.take 0 []))
else
(bif (decide ((IntKind.wrap .i64 u1.2) > 8192)) then
grd ((Nat.cast ((List.length x0)) : Int) != 0) <|
(bif ((IntKind.wrap .i64 ((IntKind.wrap .i64 (Int.tdiv 8192 (Nat.cast ((List.length x0)) : Int))) * (Nat.cast ((List.length x0)) : Int))) == 0) then
f24_J1 R_f29 R_f30 k K loop1 u1 x0 ((Nat.cast ((List.length x0)) : Int))
else
f24_J1 R_f29 R_f30 k K loop1 u1 x0 ((IntKind.wrap .i64 ((IntKind.wrap .i64 (Int.tdiv 8192 (Nat.cast ((List.length x0)) : Int))) * (Nat.cast ((List.length x0)) : Int)))))
else
f24_J1 R_f29 R_f30 k K loop1 u1 x0 ((IntKind.wrap .i64 u1.2))))))) ((IntKind.wrap .u64 (Nat.cast ((List.length x0)) : Int))) ((IntKind.wrap .u64 x1))))
/-- "bytes.Repeat" -/
def f24_A (R_f29 : f29_R) (R_f30 : f30_R) (k : Nat) : f24_R := fun X K x0 x1 => f24_T R_f29 R_f30 k K (iterV (f24_L1 R_f29 R_f30 k K) k) x0 x1
set_option maxRecDepth 100000 in
theorem f24_ev' {X : Type} (R_f29 : f29_R) (R_f30 : f30_R) (hR_f29 : AnsOk Try.prog 29 (f29_cOf R_f29)) (hR_f30 : AnsOk Try.prog 30 (f30_cOf R_f30)) (k : Nat) (K : Out → Option X) (x0 : List CV) (x1 : Int) : evFn (f24_cx R_f29 R_f30 hR_f29 hR_f30) [] k Try.f24.ntmps Try.f24.results.toList (Try.f24.body.getD .skip) [(.sl false none x0), (.v (CV.int .i64 x1))] [] K = f24_T R_f29 R_f30 k (fun u => K (f24_out u)) (fun v => iter (loopB (f24_cx R_f29 R_f30 hR_f29 hR_f30) k [.r, .r, .r, .r, .r, .r, .r, .r, .r, .r, .r, .l, .b] (Try.f24.body.getD .skip) (retK (f24_cx R_f29 R_f30 hR_f29 hR_f30) [] Try.f24.results.toList K) []) k (f24_S1 v)) x0 x1 := by kernel_rfl
theorem f24_ev {X : Type} (R_f29 : f29_R) (R_f30 : f30_R) (hR_f29 : AnsOk Try.prog 29 (f29_cOf R_f29)) (hR_f30 : AnsOk Try.prog 30 (f30_cOf R_f30)) (k : Nat) (K : Out → Option X) (x0 : List CV) (x1 : Int) : evFn (f24_cx R_f29 R_f30 hR_f29 hR_f30) [] k Try.f24.ntmps Try.f24.results.toList (Try.f24.body.getD .skip) [(.sl false none x0), (.v (CV.int .i64 x1))] [] K = f24_A R_f29 R_f30 k X (fun u => K (f24_out u)) x0 x1 := (f24_ev' R_f29 R_f30 hR_f29 hR_f30 k K x0 x1).trans (by rw [f24_L1_it R_f29 R_f30 hR_f29 hR_f30 k K]; rfl)
theorem f24_okA (R_f29 : f29_R) (R_f30 : f30_R) (hR_f29 : AnsOk Try.prog 29 (f29_cOf R_f29)) (hR_f30 : AnsOk Try.prog 30 (f30_cOf R_f30)) (k : Nat) : AnsOk Try.prog 24 (f24_cOf (f24_A R_f29 R_f30 k)) := by
  intro X xs ns K x h
  unfold f24_cOf at h ⊢
  split at h
  · exact ans_main S (f24_Cok R_f29 R_f30 hR_f29 hR_f30) Try.func24 (ent_of Try.func24 (by kernel_rfl) rfl) rfl (fun X K => f24_ev R_f29 R_f30 hR_f29 hR_f30 k K _ _) h
  · cases h
/-- "bytes.Repeat" -/
def f24 {X : Type} (k : Nat) (K : Nat × (List CV) → Option X) (x0 : List CV) (x1 : Int) : Option X := f24_A (fun X => @f29 X k) (fun X => @f30 X k) k X K x0 x1
theorem f24_ok (k : Nat) : AnsOk Try.prog 24 (f24_cOf (fun X => @f24 X k)) := f24_okA (fun X => @f29 X k) (fun X => @f30 X k) (f29_ok k) (f30_ok k) k
abbrev f8_R : Type 1 := (X : Type) → (Nat × Int × Nat × (List CV) × (List CV) → Option X) → Int → Int → Option X
def f8_out (u : Nat × Int × Nat × (List CV) × (List CV)) : Out := ⟨(.ptr [2000] 0 0 0), [([2000], (.obj [(.osl [0, 2000] none 0 u.1), (.v (CV.int .i64 u.2.1)), (.osl [2, 2000] none 0 u.2.2.1), (.v (CV.int .i64 0)), (.v (CV.int .i64 (-1))), (.v (CV.bool false))])), ([0, 2000], (.row false none u.2.2.2.1)), ([2, 2000], (.row false none u.2.2.2.2))]⟩
def f8_cOf (R : f8_R) : FnC := fun X xs ns K => match xs, ns with
  | [(.v (CV.int .i64 x0)), (.v (CV.int .i64 x1))], [] => R X (fun u => K (f8_out u)) x0 x1
  | _, _ => none
def f8_plan : Nat → Option (List Nat × List Wk)
  | 0 => some ([0, 1], [])
  | 1 => some ([0, 1], [])
  | 2 => some ([0, 1], [])
  | 3 => some ([0, 1], [])
  | _ => none
def f8_C (R_f24 : f24_R) : Fns := (orC 24 (f24_cOf R_f24) noC)
theorem f8_Cok (R_f24 : f24_R) (hR_f24 : AnsOk Try.prog 24 (f24_cOf R_f24)) : CsOk Try.prog (f8_C R_f24) := (orC_ok hR_f24 noC_ok)
def f8_cx (R_f24 : f24_R) (hR_f24 : AnsOk Try.prog 24 (f24_cOf R_f24)) : Cx := mkCx (tabOf rows) (f8_C R_f24) md (cmpIn cmps) f8_plan (f8_Cok R_f24 hR_f24)
def f8_T {X : Type} (R_f24 : f24_R) (k : Nat) (K : Nat × Int × Nat × (List CV) × (List CV) → Option X)  (x0 : Int) (x1 : Int) : Option X :=
R_f24 _ (fun u1 =>
grd (decide (0 ≤ (if 64 < (if 1 > x0 then 1 else x0) then 64 else (if 1 > x0 then 1 else x0)))) <|
grd (decide ((if 64 < (if 1 > x0 then 1 else x0) then 64 else (if 1 > x0 then 1 else x0)) ≤ (if 64 < (if 1 > x0 then 1 else x0) then 64 else (if 1 > x0 then 1 else x0)))) <|
grd (decide (((if 64 < (if 1 > x0 then 1 else x0) then 64 else (if 1 > x0 then 1 else x0)) * 8) ≤ 140737488355328)) <|
K (u1.1, (if 4096 < (if 16 > x1 then 16 else x1) then 4096 else (if 16 > x1 then 16 else x1)), (Int.toNat (if 64 < (if 1 > x0 then 1 else x0) then 64 else (if 1 > x0 then 1 else x0))), (List.take (0 + u1.1) u1.2), (List.take (0 + (Int.toNat (if 64 < (if 1 > x0 then 1 else x0) then 64 else (if 1 > x0 then 1 else x0)))) (List.replicate (Int.toNat (if 64 < (if 1 > x0 then 1 else x0) then 64 else (if 1 > x0 then 1 else x0))) (CV.int .i64 0))))) ((List.take 1 (List.drop 0 [(CV.int .u8 255)]))) ((IntKind.wrap .i64 ((if 64 < (if 1 > x0 then 1 else x0) then 64 else (if 1 > x0 then 1 else x0)) * (if 4096 < (if 16 > x1 then 16 else x1) then 4096 else (if 16 > x1 then 16 else x1)))))
/-- "outpost/flash.New" -/
def f8_A (R_f24 : f24_R) (k : Nat) : f8_R := fun X K x0 x1 => f8_T R_f24 k K  x0 x1
set_option maxRecDepth 100000 in
theorem f8_ev' {X : Type} (R_f24 : f24_R) (hR_f24 : AnsOk Try.prog 24 (f24_cOf R_f24)) (k : Nat) (K : Out → Option X) (x0 : Int) (x1 : Int) : evFn (f8_cx R_f24 hR_f24) [] k Try.f8.ntmps Try.f8.results.toList (Try.f8.body.getD .skip) [(.v (CV.int .i64 x0)), (.v (CV.int .i64 x1))] [] K = f8_T R_f24 k (fun u => K (f8_out u)) x0 x1 := by kernel_rfl
theorem f8_ev {X : Type} (R_f24 : f24_R) (hR_f24 : AnsOk Try.prog 24 (f24_cOf R_f24)) (k : Nat) (K : Out → Option X) (x0 : Int) (x1 : Int) : evFn (f8_cx R_f24 hR_f24) [] k Try.f8.ntmps Try.f8.results.toList (Try.f8.body.getD .skip) [(.v (CV.int .i64 x0)), (.v (CV.int .i64 x1))] [] K = f8_A R_f24 k X (fun u => K (f8_out u)) x0 x1 := (f8_ev' R_f24 hR_f24 k K x0 x1).trans rfl
theorem f8_okA (R_f24 : f24_R) (hR_f24 : AnsOk Try.prog 24 (f24_cOf R_f24)) (k : Nat) : AnsOk Try.prog 8 (f8_cOf (f8_A R_f24 k)) := by
  intro X xs ns K x h
  unfold f8_cOf at h ⊢
  split at h
  · exact ans_main S (f8_Cok R_f24 hR_f24) Try.func8 (ent_of Try.func8 (by kernel_rfl) rfl) rfl (fun X K => f8_ev R_f24 hR_f24 k K _ _) h
  · cases h
/-- "outpost/flash.New" -/
def f8 {X : Type} (k : Nat) (K : Nat × Int × Nat × (List CV) × (List CV) → Option X) (x0 : Int) (x1 : Int) : Option X := f8_A (fun X => @f24 X k) k X K x0 x1
theorem f8_ok (k : Nat) : AnsOk Try.prog 8 (f8_cOf (fun X => @f8 X k)) := f8_okA (fun X => @f24 X k) (f24_ok k) k
abbrev f25_R : Type 1 := (X : Type) → (Bool × Nat × Int × Nat × Int × Int × Bool × (List CV) × (List CV) → Option X) → Int → Int → Nat → Int → Nat → Int → Int → Bool → (List CV) → (List CV) → Option X
def f25_out (u : Bool × Nat × Int × Nat × Int × Int × Bool × (List CV) × (List CV)) : Out := ⟨(.v (CV.bool u.1)), [([1000], (.obj [(.osl [0, 1000] none 0 u.2.1), (.v (CV.int .i64 u.2.2.1)), (.osl [2, 1000] none 0 u.2.2.2.1), (.v (CV.int .i64 u.2.2.2.2.1)), (.v (CV.int .i64 u.2.2.2.2.2.1)), (.v (CV.bool u.2.2.2.2.2.2.1))])), ([0, 1000], (.row false none u.2.2.2.2.2.2.2.1)), ([2, 1000], (.row false none u.2.2.2.2.2.2.2.2))]⟩
def f25_cOf (R : f25_R) : FnC := fun X xs ns K => match xs, ns with
  | [(.ptr [1000] 0 0 0), (.v (CV.int .i64 x0)), (.v (CV.int .i64 x1))], [([1000], (.obj [(.osl [0, 1000] none 0 x2), (.v (CV.int .i64 x3)), (.osl [2, 1000] none 0 x4), (.v (CV.int .i64 x5)), (.v (CV.int .i64 x6)), (.v (CV.bool x7))])), ([0, 1000], (.row false none x8)), ([2, 1000], (.row false none x9))] => R X (fun u => K (f25_out u)) x0 x1 x2 x3 x4 x5 x6 x7 x8 x9
  | _, _ => none
def f25_plan : Nat → Option (List Nat × List Wk)
  | 0 => some ([0, 1, 2], [])
  | 1 => some ([0, 1, 2], [])
  | _ => none
def f25_C : Fns := noC
theorem f25_Cok : CsOk Try.prog (f25_C) := noC_ok
def f25_cx : Cx := mkCx (tabOf rows) (f25_C) md (cmpIn cmps) f25_plan (f25_Cok)
def f25_T {X : Type} (k : Nat) (K : Bool × Nat × Int × Nat × Int × Int × Bool × (List CV) × (List CV) → Option X)  (x0 : Int) (x1 : Int) (x2 : Nat) (x3 : Int) (x4 : Nat) (x5 : Int) (x6 : Int) (x7 : Bool) (x8 : List CV) (x9 : List CV) : Option X :=
(bif (decide (x0 ≥ 0)) then
(bif (decide (x1 ≥ 0)) then
(bif (decide (x0 ≤ (Nat.cast (x2) : Int))) then
K ((decide (x1 ≤ (IntKind.wrap .i64 ((Nat.cast (x2) : Int) - x0)))), x2, x3, x4, x5, x6, x7, (List.take (0 + x2) x8), (List.take (0 + x4) x9))
else
K (false, x2, x3, x4, x5, x6, x7, (List.take (0 + x2) x8), (List.take (0 + x4) x9)))
else
K (false, x2, x3, x4, x5, x6, x7, (List.take (0 + x2) x8), (List.take (0 + x4) x9)))
else
K (false, x2, x3, x4, x5, x6, x7, (List.take (0 + x2) x8), (List.take (0 + x4) x9)))
/-- "(*outpost/flash.Flash).within" -/
def f25_A (k : Nat) : f25_R := fun X K x0 x1 x2 x3 x4 x5 x6 x7 x8 x9 => f25_T k K  x0 x1 x2 x3 x4 x5 x6 x7 x8 x9
set_option maxRecDepth 100000 in
theorem f25_ev' {X : Type} (k : Nat) (K : Out → Option X) (x0 : Int) (x1 : Int) (x2 : Nat) (x3 : Int) (x4 : Nat) (x5 : Int) (x6 : Int) (x7 : Bool) (x8 : List CV) (x9 : List CV) : evFn (f25_cx) [] k Try.f25.ntmps Try.f25.results.toList (Try.f25.body.getD .skip) [(.ptr [1000] 0 0 0), (.v (CV.int .i64 x0)), (.v (CV.int .i64 x1))] [([1000], (.obj [(.osl [0, 1000] none 0 x2), (.v (CV.int .i64 x3)), (.osl [2, 1000] none 0 x4), (.v (CV.int .i64 x5)), (.v (CV.int .i64 x6)), (.v (CV.bool x7))])), ([0, 1000], (.row false none x8)), ([2, 1000], (.row false none x9))] K = f25_T k (fun u => K (f25_out u)) x0 x1 x2 x3 x4 x5 x6 x7 x8 x9 := by kernel_rfl
theorem f25_ev {X : Type} (k : Nat) (K : Out → Option X) (x0 : Int) (x1 : Int) (x2 : Nat) (x3 : Int) (x4 : Nat) (x5 : Int) (x6 : Int) (x7 : Bool) (x8 : List CV) (x9 : List CV) : evFn (f25_cx) [] k Try.f25.ntmps Try.f25.results.toList (Try.f25.body.getD .skip) [(.ptr [1000] 0 0 0), (.v (CV.int .i64 x0)), (.v (CV.int .i64 x1))] [([1000], (.obj [(.osl [0, 1000] none 0 x2), (.v (CV.int .i64 x3)), (.osl [2, 1000] none 0 x4), (.v (CV.int .i64 x5)), (.v (CV.int .i64 x6)), (.v (CV.bool x7))])), ([0, 1000], (.row false none x8)), ([2, 1000], (.row false none x9))] K = f25_A k X (fun u => K (f25_out u)) x0 x1 x2 x3 x4 x5 x6 x7 x8 x9 := (f25_ev' k K x0 x1 x2 x3 x4 x5 x6 x7 x8 x9).trans rfl
theorem f25_okA (k : Nat) : AnsOk Try.prog 25 (f25_cOf (f25_A k)) := by
  intro X xs ns K x h
  unfold f25_cOf at h ⊢
  split at h
  · exact ans_main S (f25_Cok) Try.func25 (ent_of Try.func25 (by kernel_rfl) rfl) rfl (fun X K => f25_ev k K _ _ _ _ _ _ _ _ _ _) h
  · cases h
/-- "(*outpost/flash.Flash).within" -/
def f25 {X : Type} (k : Nat) (K : Bool × Nat × Int × Nat × Int × Int × Bool × (List CV) × (List CV) → Option X) (x0 : Int) (x1 : Int) (x2 : Nat) (x3 : Int) (x4 : Nat) (x5 : Int) (x6 : Int) (x7 : Bool) (x8 : List CV) (x9 : List CV) : Option X := f25_A k X K x0 x1 x2 x3 x4 x5 x6 x7 x8 x9
theorem f25_ok (k : Nat) : AnsOk Try.prog 25 (f25_cOf (fun X => @f25 X k)) := f25_okA k
abbrev f28_R : Type 1 := (X : Type) → (Bool × Nat × Int × Nat × Int × Int × Bool × (List CV) × (List CV) → Option X) → Int → (List CV) → Nat → Int → Nat → Int → Int → Bool → (List CV) → (List CV) → Option X
def f28_out (u : Bool × Nat × Int × Nat × Int × Int × Bool × (List CV) × (List CV)) : Out := ⟨(.v (CV.bool u.1)), [([1000], (.obj [(.osl [0, 1000] none 0 u.2.1), (.v (CV.int .i64 u.2.2.1)), (.osl [2, 1000] none 0 u.2.2.2.1), (.v (CV.int .i64 u.2.2.2.2.1)), (.v (CV.int .i64 u.2.2.2.2.2.1)), (.v (CV.bool u.2.2.2.2.2.2.1))])), ([0, 1000], (.row false none u.2.2.2.2.2.2.2.1)), ([2, 1000], (.row false none u.2.2.2.2.2.2.2.2))]⟩
def f28_cOf (R : f28_R) : FnC := fun X xs ns K => match xs, ns with
  | [(.ptr [1000] 0 0 0), (.v (CV.int .i64 x0)), (.sl false none x1)], [([1000], (.obj [(.osl [0, 1000] none 0 x2), (.v (CV.int .i64 x3)), (.osl [2, 1000] none 0 x4), (.v (CV.int .i64 x5)), (.v (CV.int .i64 x6)), (.v (CV.bool x7))])), ([0, 1000], (.row false none x8)), ([2, 1000], (.row false none x9))] => R X (fun u => K (f28_out u)) x0 x1 x2 x3 x4 x5 x6 x7 x8 x9
  | _, _ => none
def f28_plan : Nat → Option (List Nat × List Wk)
  | 0 => some ([0, 1, 2], [])
  | 1 => some ([0, 1, 2], [])
  | 2 => some ([0, 1, 9, 10, 11], [])
  | 3 => some ([0, 1, 9, 10, 11], [])
  | 4 => some ([0, 1, 7, 8, 9, 10, 11], [])
  | 5 => some ([], [])
  | 6 => some ([0, 1, 9, 10, 11], [])
  | 7 => some ([], [])
  | _ => none
def f28_C : Fns := noC
theorem f28_Cok : CsOk Try.prog (f28_C) := noC_ok
def f28_cx : Cx := mkCx (tabOf rows) (f28_C) md (cmpIn cmps) f28_plan (f28_Cok)
def f28_S1 (v : Int × (List CV) × Int × Int × Nat × Int × Nat × Int × Int × Bool × (List CV) × (List CV)) : St := ⟨[(.ptr [1000] 0 0 0), (.v (CV.int .i64 v.1)), .undef, .undef, .undef, .undef, .undef, .undef, .undef, (.sl false none v.2.1), (.v (CV.int .i64 v.2.2.1)), (.v (CV.int .i64 v.2.2.2.1)), .undef, .undef, .undef, .undef, .undef, .undef, .undef, .undef, .undef, .undef, .undef, .undef, .undef, .undef, .undef, .undef, .undef], [([1000], (.obj [(.osl [0, 1000] none 0 v.2.2.2.2.1), (.v (CV.int .i64 v.2.2.2.2.2.1)), (.osl [2, 1000] none 0 v.2.2.2.2.2.2.1), (.v (CV.int .i64 v.2.2.2.2.2.2.2.1)), (.v (CV.int .i64 v.2.2.2.2.2.2.2.2.1)), (.v (CV.bool v.2.2.2.2.2.2.2.2.2.1))])), ([0, 1000], (.row false none v.2.2.2.2.2.2.2.2.2.2.1)), ([2, 1000], (.row false none v.2.2.2.2.2.2.2.2.2.2.2))]⟩
def f28_T1 {X : Type} (k : Nat) (K : Bool × Nat × Int × Nat × Int × Int × Bool × (List CV) × (List CV) → Option X)   (rec1 : Int × (List CV) × Int × Int × Nat × Int × Nat × Int × Int × Bool × (List CV) × (List CV) → Option X) (v4_0 : Int × (List CV) × Int × Int × Nat × Int × Nat × Int × Int × Bool × (List CV) × (List CV)) : Option X :=
(bif (decide (v4_0.2.2.2.1 < v4_0.2.2.1)) then
grd (decide (0 ≤ v4_0.2.2.2.1)) <|
Option.bind (v4_0.2.1)[(Int.toNat v4_0.2.2.2.1)]? fun e8 =>
grd (CV.isI .u8 e8) <|
grd (decide (0 ≤ (IntKind.wrap .i64 (v4_0.1 + v4_0.2.2.2.1)))) <|
grd (decide ((IntKind.wrap .i64 (v4_0.1 + v4_0.2.2.2.1)) < (Nat.cast (v4_0.2.2.2.2.1) : Int))) <|
Option.bind (v4_0.2.2.2.2.2.2.2.2.2.2.1)[(0 + (Int.toNat (IntKind.wrap .i64 (v4_0.1 + v4_0.2.2.2.1))))]? fun e9 =>
grd (CV.isI .u8 e9) <|
(bif ((bop .andNot .u8 (CV.toI e8) (CV.toI e9)) != 0) then
K (false, v4_0.2.2.2.2.1, v4_0.2.2.2.2.2.1, v4_0.2.2.2.2.2.2.1, v4_0.2.2.2.2.2.2.2.1, v4_0.2.2.2.2.2.2.2.2.1, v4_0.2.2.2.2.2.2.2.2.2.1, (List.take (0 + v4_0.2.2.2.2.1) v4_0.2.2.2.2.2.2.2.2.2.2.1), (List.take (0 + v4_0.2.2.2.2.2.2.1) v4_0.2.2.2.2.2.2.2.2.2.2.2))
else
rec1 (v4_0.1, v4_0.2.1, v4_0.2.2.1, (IntKind.wrap .i64 (v4_0.2.2.2.1 + 1)), v4_0.2.2.2.2.1, v4_0.2.2.2.2.2.1, v4_0.2.2.2.2.2.2.1, v4_0.2.2.2.2.2.2.2.1, v4_0.2.2.2.2.2.2.2.2.1, v4_0.2.2.2.2.2.2.2.2.2.1, v4_0.2.2.2.2.2.2.2.2.2.2.1, v4_0.2.2.2.2.2.2.2.2.2.2.2))
else
K (true, v4_0.2.2.2.2.1, v4_0.2.2.2.2.2.1, v4_0.2.2.2.2.2.2.1, v4_0.2.2.2.2.2.2.2.1, v4_0.2.2.2.2.2.2.2.2.1, v4_0.2.2.2.2.2.2.2.2.2.1, (List.take (0 + v4_0.2.2.2.2.1) v4_0.2.2.2.2.2.2.2.2.2.2.1), (List.take (0 + v4_0.2.2.2.2.2.2.1) v4_0.2.2.2.2.2.2.2.2.2.2.2)))
def f28_L1 {X : Type} (k : Nat) (K : Bool × Nat × Int × Nat × Int × Int × Bool × (List CV) × (List CV) → Option X)  (rec1 : Int × (List CV) × Int × Int × Nat × Int × Nat × Int × Int × Bool × (List CV) × (List CV) → Option X) (v : Int × (List CV) × Int × Int × Nat × Int × Nat × Int × Int × Bool × (List CV) × (List CV)) : Option X := f28_T1 k K   rec1 v
set_option maxRecDepth 100000 in
theorem f28_L1_ev {X : Type} (k : Nat) (K : Out → Option X)  (r1 : St → Option X) (v : Int × (List CV) × Int × Int × Nat × Int × Nat × Int × Int × Bool × (List CV) × (List CV)) : loopB (f28_cx) k [.r, .l, .r, .b] (Try.f28.body.getD .skip) (retK (f28_cx) [] Try.f28.results.toList K) [] r1 (f28_S1 v) = f28_T1 k (fun u => K (f28_out u))   (fun v => r1 (f28_S1 v)) v := by kernel_rfl
theorem f28_L1_it {X : Type} (k : Nat) (K : Out → Option X)  : (fun v => iter (loopB (f28_cx) k [.r, .l, .r, .b] (Try.f28.body.getD .skip) (retK (f28_cx) [] Try.f28.results.toList K) []) k (f28_S1 v)) = iterV (f28_L1 k (fun u => K (f28_out u)) ) k :=
  iter_map (fun r1 v => (f28_L1_ev k K  r1 v).trans rfl) k
def f28_T {X : Type} (k : Nat) (K : Bool × Nat × Int × Nat × Int × Int × Bool × (List CV) × (List CV) → Option X) (loop1 : Int × (List CV) × Int × Int × Nat × Int × Nat × Int × Int × Bool × (List CV) × (List CV) → Option X) (x0 : Int) (x1 : List CV) (x2 : Nat) (x3 : Int) (x4 : Nat) (x5 : Int) (x6 : Int) (x7 : Bool) (x8 : List CV) (x9 : List CV) : Option X :=
loop1 (x0, x1, (Nat.cast ((List.length x1)) : Int), 0, x2, x3, x4, x5, x6, x7, x8, x9)
/-- "(*outpost/flash.Flash).clears" -/
def f28_A (k : Nat) : f28_R := fun X K x0 x1 x2 x3 x4 x5 x6 x7 x8 x9 => f28_T k K (iterV (f28_L1 k K) k) x0 x1 x2 x3 x4 x5 x6 x7 x8 x9
set_option maxRecDepth 100000 in
theorem f28_ev' {X : Type} (k : Nat) (K : Out → Option X) (x0 : Int) (x1 : List CV) (x2 : Nat) (x3 : Int) (x4 : Nat) (x5 : Int) (x6 : Int) (x7 : Bool) (x8 : List CV) (x9 : List CV) : evFn (f28_cx) [] k Try.f28.ntmps Try.f28.results.toList (Try.f28.body.getD .skip) [(.ptr [1000] 0 0 0), (.v (CV.int .i64 x0)), (.sl false none x1)] [([1000], (.obj [(.osl [0, 1000] none 0 x2), (.v (CV.int .i64 x3)), (.osl [2, 1000] none 0 x4), (.v (CV.int .i64 x5)), (.v (CV.int .i64 x6)), (.v (CV.bool x7))])), ([0, 1000], (.row false none x8)), ([2, 1000], (.row false none x9))] K = f28_T k (fun u => K (f28_out u)) (fun v => iter (loopB (f28_cx) k [.r, .l, .r, .b] (Try.f28.body.getD .skip) (retK (f28_cx) [] Try.f28.results.toList K) []) k (f28_S1 v)) x0 x1 x2 x3 x4 x5 x6 x7 x8 x9 := by kernel_rfl
theorem f28_ev {X : Type} (k : Nat) (K : Out → Option X) (x0 : Int) (x1 : List CV) (x2 : Nat) (x3 : Int) (x4 : Nat) (x5 : Int) (x6 : Int) (x7 : Bool) (x8 : List CV) (x9 : List CV) : evFn (f28_cx) [] k Try.f28.ntmps Try.f28.results.toList (Try.f28.body.getD .skip) [(.ptr [1000] 0 0 0), (.v (CV.int .i64 x0)), (.sl false none x1)] [([1000], (.obj [(.osl [0, 1000] none 0 x2), (.v (CV.int .i64 x3)), (.osl [2, 1000] none 0 x4), (.v (CV.int .i64 x5)), (.v (CV.int .i64 x6)), (.v (CV.bool x7))])), ([0, 1000], (.row false none x8)), ([2, 1000], (.row false none x9))] K = f28_A k X (fun u => K (f28_out u)) x0 x1 x2 x3 x4 x5 x6 x7 x8 x9 := (f28_ev' k K x0 x1 x2 x3 x4 x5 x6 x7 x8 x9).trans (by rw [f28_L1_it k K]; rfl)
theorem f28_okA (k : Nat) : AnsOk Try.prog 28 (f28_cOf (f28_A k)) := by
  intro X xs ns K x h
  unfold f28_cOf at h ⊢
  split at h
  · exact ans_main S (f28_Cok) Try.func28 (ent_of Try.func28 (by kernel_rfl) rfl) rfl (fun X K => f28_ev k K _ _ _ _ _ _ _ _ _ _) h
  · cases h
/-- "(*outpost/flash.Flash).clears" -/
def f28 {X : Type} (k : Nat) (K : Bool × Nat × Int × Nat × Int × Int × Bool × (List CV) × (List CV) → Option X) (x0 : Int) (x1 : List CV) (x2 : Nat) (x3 : Int) (x4 : Nat) (x5 : Int) (x6 : Int) (x7 : Bool) (x8 : List CV) (x9 : List CV) : Option X := f28_A k X K x0 x1 x2 x3 x4 x5 x6 x7 x8 x9
theorem f28_ok (k : Nat) : AnsOk Try.prog 28 (f28_cOf (fun X => @f28 X k)) := f28_okA k
abbrev f27_R : Type 1 := (X : Type) → (Bool × Nat × Int × Nat × Int × Int × Bool × (List CV) × (List CV) → Option X) → Int → Int → Nat → Int → Nat → Int → Int → Bool → (List CV) → (List CV) → Option X
def f27_out (u : Bool × Nat × Int × Nat × Int × Int × Bool × (List CV) × (List CV)) : Out := ⟨(.v (CV.bool u.1)), [([1000], (.obj [(.osl [0, 1000] none 0 u.2.1), (.v (CV.int .i64 u.2.2.1)), (.osl [2, 1000] none 0 u.2.2.2.1), (.v (CV.int .i64 u.2.2.2.2.1)), (.v (CV.int .i64 u.2.2.2.2.2.1)), (.v (CV.bool u.2.2.2.2.2.2.1))])), ([0, 1000], (.row false none u.2.2.2.2.2.2.2.1)), ([2, 1000], (.row false none u.2.2.2.2.2.2.2.2))]⟩
def f27_cOf (R : f27_R) : FnC := fun X xs ns K => match xs, ns with
  | [(.ptr [1000] 0 0 0), (.v (CV.int .i64 x0)), (.v (CV.int .u8 x1))], [([1000], (.obj [(.osl [0, 1000] none 0 x2), (.v (CV.int .i64 x3)), (.osl [2, 1000] none 0 x4), (.v (CV.int .i64 x5)), (.v (CV.int .i64 x6)), (.v (CV.bool x7))])), ([0, 1000], (.row false none x8)), ([2, 1000], (.row false none x9))] => R X (fun u => K (f27_out u)) x0 x1 x2 x3 x4 x5 x6 x7 x8 x9
  | _, _ => none
def f27_plan : Nat → Option (List Nat × List Wk)
  | 0 => some ([0, 1, 2], [])
  | 1 => some ([0, 1, 2], [])
  | 2 => some ([0], [])
  | 3 => some ([], [])
  | 4 => some ([0, 1, 2], [])
  | 5 => some ([0, 1, 2], [])
  | 6 => some ([0, 1, 2], [])
  | 7 => some ([0], [])
  | 8 => some ([], [])
  | _ => none
def f27_C : Fns := noC
theorem f27_Cok : CsOk Try.prog (f27_C) := noC_ok
def f27_cx : Cx := mkCx (tabOf rows) (f27_C) md (cmpIn cmps) f27_plan (f27_Cok)
def f27_J1 {X : Type} (k : Nat) (K : Bool × Nat × Int × Nat × Int × Int × Bool × (List CV) × (List CV) → Option X) (x0 : Int) (v1 : Int × Nat × Int × Nat × Int × Int × Bool × (List CV) × (List CV)) : Option X :=
grd (decide (0 ≤ x0)) <|
grd (decide (x0 < (Nat.cast (v1.2.1) : Int))) <|
grd (decide ((0 + (Int.toNat x0)) < (List.length v1.2.2.2.2.2.2.2.1))) <|
K (true, v1.2.1, v1.2.2.1, v1.2.2.2.1, (if 1073741824 < (IntKind.wrap .i64 (v1.2.2.2.2.1 + 1)) then 1073741824 else (IntKind.wrap .i64 (v1.2.2.2.2.1 + 1))), v1.2.2.2.2.2.1, v1.2.2.2.2.2.2.1, (List.take (0 + v1.2.1) (List.set v1.2.2.2.2.2.2.2.1 (0 + (Int.toNat x0)) (CV.int .u8 v1.1))), (List.take (0 + v1.2.2.2.1) v1.2.2.2.2.2.2.2.2))
def f27_T {X : Type} (k : Nat) (K : Bool × Nat × Int × Nat × Int × Int × Bool × (List CV) × (List CV) → Option X)  (x0 : Int) (x1 : Int) (x2 : Nat) (x3 : Int) (x4 : Nat) (x5 : Int) (x6 : Int) (x7 : Bool) (x8 : List CV) (x9 : List CV) : Option X :=
(bif (x6 == 0) then
K (false, x2, x3, x4, x5, x6, true, (List.take (0 + x2) x8), (List.take (0 + x4) x9))
else
(bif (decide (x6 > 0)) then
f27_J1 k K x0 (x1, x2, x3, x4, x5, (IntKind.wrap .i64 (x6 - 1)), x7, x8, x9)
else
f27_J1 k K x0 (x1, x2, x3, x4, x5, x6, x7, x8, x9)))
/-- "(*outpost/flash.Flash).turn" -/
def f27_A (k : Nat) : f27_R := fun X K x0 x1 x2 x3 x4 x5 x6 x7 x8 x9 => f27_T k K  x0 x1 x2 x3 x4 x5 x6 x7 x8 x9
set_option maxRecDepth 100000 in
theorem f27_ev' {X : Type} (k : Nat) (K : Out → Option X) (x0 : Int) (x1 : Int) (x2 : Nat) (x3 : Int) (x4 : Nat) (x5 : Int) (x6 : Int) (x7 : Bool) (x8 : List CV) (x9 : List CV) : evFn (f27_cx) [] k Try.f27.ntmps Try.f27.results.toList (Try.f27.body.getD .skip) [(.ptr [1000] 0 0 0), (.v (CV.int .i64 x0)), (.v (CV.int .u8 x1))] [([1000], (.obj [(.osl [0, 1000] none 0 x2), (.v (CV.int .i64 x3)), (.osl [2, 1000] none 0 x4), (.v (CV.int .i64 x5)), (.v (CV.int .i64 x6)), (.v (CV.bool x7))])), ([0, 1000], (.row false none x8)), ([2, 1000], (.row false none x9))] K = f27_T k (fun u => K (f27_out u)) x0 x1 x2 x3 x4 x5 x6 x7 x8 x9 := by kernel_rfl
theorem f27_ev {X : Type} (k : Nat) (K : Out → Option X) (x0 : Int) (x1 : Int) (x2 : Nat) (x3 : Int) (x4 : Nat) (x5 : Int) (x6 : Int) (x7 : Bool) (x8 : List CV) (x9 : List CV) : evFn (f27_cx) [] k Try.f27.ntmps Try.f27.results.toList (Try.f27.body.getD .skip) [(.ptr [1000] 0 0 0), (.v (CV.int .i64 x0)), (.v (CV.int .u8 x1))] [([1000], (.obj [(.osl [0, 1000] none 0 x2), (.v (CV.int .i64 x3)), (.osl [2, 1000] none 0 x4), (.v (CV.int .i64 x5)), (.v (CV.int .i64 x6)), (.v (CV.bool x7))])), ([0, 1000], (.row false none x8)), ([2, 1000], (.row false none x9))] K = f27_A k X (fun u => K (f27_out u)) x0 x1 x2 x3 x4 x5 x6 x7 x8 x9 := (f27_ev' k K x0 x1 x2 x3 x4 x5 x6 x7 x8 x9).trans rfl
theorem f27_okA (k : Nat) : AnsOk Try.prog 27 (f27_cOf (f27_A k)) := by
  intro X xs ns K x h
  unfold f27_cOf at h ⊢
  split at h
  · exact ans_main S (f27_Cok) Try.func27 (ent_of Try.func27 (by kernel_rfl) rfl) rfl (fun X K => f27_ev k K _ _ _ _ _ _ _ _ _ _) h
  · cases h
/-- "(*outpost/flash.Flash).turn" -/
def f27 {X : Type} (k : Nat) (K : Bool × Nat × Int × Nat × Int × Int × Bool × (List CV) × (List CV) → Option X) (x0 : Int) (x1 : Int) (x2 : Nat) (x3 : Int) (x4 : Nat) (x5 : Int) (x6 : Int) (x7 : Bool) (x8 : List CV) (x9 : List CV) : Option X := f27_A k X K x0 x1 x2 x3 x4 x5 x6 x7 x8 x9
theorem f27_ok (k : Nat) : AnsOk Try.prog 27 (f27_cOf (fun X => @f27 X k)) := f27_okA k
abbrev f16_R : Type 1 := (X : Type) → (Int × Nat × Int × Nat × Int × Int × Bool × (List CV) × (List CV) → Option X) → Int → (List CV) → Nat → Int → Nat → Int → Int → Bool → (List CV) → (List CV) → Option X
def f16_out (u : Int × Nat × Int × Nat × Int × Int × Bool × (List CV) × (List CV)) : Out := ⟨(.v (CV.int .i64 u.1)), [([1000], (.obj [(.osl [0, 1000] none 0 u.2.1), (.v (CV.int .i64 u.2.2.1)), (.osl [2, 1000] none 0 u.2.2.2.1), (.v (CV.int .i64 u.2.2.2.2.1)), (.v (CV.int .i64 u.2.2.2.2.2.1)), (.v (CV.bool u.2.2.2.2.2.2.1))])), ([0, 1000], (.row false none u.2.2.2.2.2.2.2.1)), ([2, 1000], (.row false none u.2.2.2.2.2.2.2.2))]⟩
def f16_cOf (R : f16_R) : FnC := fun X xs ns K => match xs, ns with
  | [(.ptr [1000] 0 0 0), (.v (CV.int .i64 x0)), (.sl false none x1)], [([1000], (.obj [(.osl [0, 1000] none 0 x2), (.v (CV.int .i64 x3)), (.osl [2, 1000] none 0 x4), (.v (CV.int .i64 x5)), (.v (CV.int .i64 x6)), (.v (CV.bool x7))])), ([0, 1000], (.row false none x8)), ([2, 1000], (.row false none x9))] => R X (fun u => K (f16_out u)) x0 x1 x2 x3 x4 x5 x6 x7 x8 x9
  | _, _ => none
def f16_plan : Nat → Option (List Nat × List Wk)
  | 0 => some ([0, 1, 2], [])
  | 1 => some ([0, 1, 2], [])
  | 2 => some ([], [])
  | 3 => some ([0, 1, 2], [])
  | 4 => some ([], [])
  | 5 => some ([0, 1, 2], [])
  | 6 => some ([], [])
  | 7 => some ([0, 1, 2], [])
  | 8 => some ([0, 1, 27, 28, 29], [])
  | 9 => some ([0, 1, 27, 28, 29], [])
  | 10 => some ([0, 1, 7, 8, 27, 28, 29], [])
  | 11 => some ([], [])
  | 12 => some ([0, 1, 27, 28, 29], [])
  | 13 => some ([], [])
  | _ => none
def f16_C (R_f25 : f25_R) (R_f28 : f28_R) (R_f27 : f27_R) : Fns := (orC 25 (f25_cOf R_f25) (orC 27 (f27_cOf R_f27) (orC 28 (f28_cOf R_f28) noC)))
theorem f16_Cok (R_f25 : f25_R) (R_f28 : f28_R) (R_f27 : f27_R) (hR_f25 : AnsOk Try.prog 25 (f25_cOf R_f25)) (hR_f28 : AnsOk Try.prog 28 (f28_cOf R_f28)) (hR_f27 : AnsOk Try.prog 27 (f27_cOf R_f27)) : CsOk Try.prog (f16_C R_f25 R_f28 R_f27) := (orC_ok hR_f25 (orC_ok hR_f27 (orC_ok hR_f28 noC_ok)))
def f16_cx (R_f25 : f25_R) (R_f28 : f28_R) (R_f27 : f27_R) (hR_f25 : AnsOk Try.prog 25 (f25_cOf R_f25)) (hR_f28 : AnsOk Try.prog 28 (f28_cOf R_f28)) (hR_f27 : AnsOk Try.prog 27 (f27_cOf R_f27)) : Cx := mkCx (tabOf rows) (f16_C R_f25 R_f28 R_f27) md (cmpIn cmps) f16_plan (f16_Cok R_f25 R_f28 R_f27 hR_f25 hR_f28 hR_f27)
def f16_S1 (v : Int × (List CV) × Int × Int × Nat × Int × Nat × Int × Int × Bool × (List CV) × (List CV)) : St := ⟨[(.ptr [1000] 0 0 0), (.v (CV.int .i64 v.1)), .undef, .undef, .undef, .undef, .undef, .undef, .undef, .undef, .undef, .undef, .undef, .undef, .undef, .undef, .undef, .undef, .undef, .undef, .undef, .undef, .undef, .undef, .undef, .undef, .undef, (.sl false none v.2.1), (.v (CV.int .i64 v.2.2.1)), (.v (CV.int .i64 v.2.2.2.1)), .undef, .undef, .undef, .undef, .undef, .undef, .undef, .undef, .undef, .undef, .undef, .undef], [([1000], (.obj [(.osl [0, 1000] none 0 v.2.2.2.2.1), (.v (CV.int .i64 v.2.2.2.2.2.1)), (.osl [2, 1000] none 0 v.2.2.2.2.2.2.1), (.v (CV.int .i64 v.2.2.2.2.2.2.2.1)), (.v (CV.int .i64 v.2.2.2.2.2.2.2.2.1)), (.v (CV.bool v.2.2.2.2.2.2.2.2.2.1))])), ([0, 1000], (.row false none v.2.2.2.2.2.2.2.2.2.2.1)), ([2, 1000], (.row false none v.2.2.2.2.2.2.2.2.2.2.2))]⟩
def f16_T1 {X : Type} (R_f25 : f25_R) (R_f28 : f28_R) (R_f27 : f27_R) (k : Nat) (K : Int × Nat × Int × Nat × Int × Int × Bool × (List CV) × (List CV) → Option X)   (rec1 : Int × (List CV) × Int × Int × Nat × Int × Nat × Int × Int × Bool × (List CV) × (List CV) → Option X) (v5_4 : Int × (List CV) × Int × Int × Nat × Int × Nat × Int × Int × Bool × (List CV) × (List CV)) : Option X :=
(bif (decide (v5_4.2.2.2.1 < v5_4.2.2.1)) then
grd (decide (0 ≤ v5_4.2.2.2.1)) <|
Option.bind (v5_4.2.1)[(Int.toNat v5_4.2.2.2.1)]? fun e12 =>
grd (CV.isI .u8 e12) <|
R_f27 _ (fun u13 =>
(bif (!u13.1) then
K (30, u13.2.1, u13.2.2.1, u13.2.2.2.1, u13.2.2.2.2.1, u13.2.2.2.2.2.1, u13.2.2.2.2.2.2.1, (List.take (0 + u13.2.1) u13.2.2.2.2.2.2.2.1), (List.take (0 + u13.2.2.2.1) u13.2.2.2.2.2.2.2.2))
else
rec1 (v5_4.1, v5_4.2.1, v5_4.2.2.1, (IntKind.wrap .i64 (v5_4.2.2.2.1 + 1)), u13.2.1, u13.2.2.1, u13.2.2.2.1, u13.2.2.2.2.1, u13.2.2.2.2.2.1, u13.2.2.2.2.2.2.1, u13.2.2.2.2.2.2.2.1, u13.2.2.2.2.2.2.2.2))) ((IntKind.wrap .i64 (v5_4.1 + v5_4.2.2.2.1))) ((CV.toI e12)) (v5_4.2.2.2.2.1) (v5_4.2.2.2.2.2.1) (v5_4.2.2.2.2.2.2.1) (v5_4.2.2.2.2.2.2.2.1) (v5_4.2.2.2.2.2.2.2.2.1) (v5_4.2.2.2.2.2.2.2.2.2.1) (v5_4.2.2.2.2.2.2.2.2.2.2.1) (v5_4.2.2.2.2.2.2.2.2.2.2.2)
else
K (0, v5_4.2.2.2.2.1, v5_4.2.2.2.2.2.1, v5_4.2.2.2.2.2.2.1, v5_4.2.2.2.2.2.2.2.1, v5_4.2.2.2.2.2.2.2.2.1, v5_4.2.2.2.2.2.2.2.2.2.1, (List.take (0 + v5_4.2.2.2.2.1) v5_4.2.2.2.2.2.2.2.2.2.2.1), (List.take (0 + v5_4.2.2.2.2.2.2.1) v5_4.2.2.2.2.2.2.2.2.2.2.2)))
def f16_L1 {X : Type} (R_f25 : f25_R) (R_f28 : f28_R) (R_f27 : f27_R) (k : Nat) (K : Int × Nat × Int × Nat × Int × Int × Bool × (List CV) × (List CV) → Option X)  (rec1 : Int × (List CV) × Int × Int × Nat × Int × Nat × Int × Int × Bool × (List CV) × (List CV) → Option X) (v : Int × (List CV) × Int × Int × Nat × Int × Nat × Int × Int × Bool × (List CV) × (List CV)) : Option X := f16_T1 R_f25 R_f28 R_f27 k K   rec1 v
set_option maxRecDepth 100000 in
theorem f16_L1_ev {X : Type} (R_f25 : f25_R) (R_f28 : f28_R) (R_f27 : f27_R) (hR_f25 : AnsOk Try.prog 25 (f25_cOf R_f25)) (hR_f28 : AnsOk Try.prog 28 (f28_cOf R_f28)) (hR_f27 : AnsOk Try.prog 27 (f27_cOf R_f27)) (k : Nat) (K : Out → Option X)  (r1 : St → Option X) (v : Int × (List CV) × Int × Int × Nat × Int × Nat × Int × Int × Bool × (List CV) × (List CV)) : loopB (f16_cx R_f25 R_f28 R_f27 hR_f25 hR_f28 hR_f27) k [.r, .r, .l, .r, .b] (Try.f16.body.getD .skip) (retK (f16_cx R_f25 R_f28 R_f27 hR_f25 hR_f28 hR_f27) [] Try.f16.results.toList K) [] r1 (f16_S1 v) = f16_T1 R_f25 R_f28 R_f27 k (fun u => K (f16_out u))   (fun v => r1 (f16_S1 v)) v := by kernel_rfl
theorem f16_L1_it {X : Type} (R_f25 : f25_R) (R_f28 : f28_R) (R_f27 : f27_R) (hR_f25 : AnsOk Try.prog 25 (f25_cOf R_f25)) (hR_f28 : AnsOk Try.prog 28 (f28_cOf R_f28)) (hR_f27 : AnsOk Try.prog 27 (f27_cOf R_f27)) (k : Nat) (K : Out → Option X)  : (fun v => iter (loopB (f16_cx R_f25 R_f28 R_f27 hR_f25 hR_f28 hR_f27) k [.r, .r, .l, .r, .b] (Try.f16.body.getD .skip) (retK (f16_cx R_f25 R_f28 R_f27 hR_f25 hR_f28 hR_f27) [] Try.f16.results.toList K) []) k (f16_S1 v)) = iterV (f16_L1 R_f25 R_f28 R_f27 k (fun u => K (f16_out u)) ) k :=
  iter_map (fun r1 v => (f16_L1_ev R_f25 R_f28 R_f27 hR_f25 hR_f28 hR_f27 k K  r1 v).trans rfl) k
def f16_T {X : Type} (R_f25 : f25_R) (R_f28 : f28_R) (R_f27 : f27_R) (k : Nat) (K : Int × Nat × Int × Nat × Int × Int × Bool × (List CV) × (List CV) → Option X) (loop1 : Int × (List CV) × Int × Int × Nat × Int × Nat × Int × Int × Bool × (List CV) × (List CV) → Option X) (x0 : Int) (x1 : List CV) (x2 : Nat) (x3 : Int) (x4 : Nat) (x5 : Int) (x6 : Int) (x7 : Bool) (x8 : List CV) (x9 : List CV) : Option X :=
(bif x7 then
K (30, x2, x3, x4, x5, x6, x7, (List.take (0 + x2) x8), (List.take (0 + x4) x9))
else
R_f25 _ (fun u3 =>
(bif (!u3.1) then
K (1, u3.2.1, u3.2.2.1, u3.2.2.2.1, u3.2.2.2.2.1, u3.2.2.2.2.2.1, u3.2.2.2.2.2.2.1, (List.take (0 + u3.2.1) u3.2.2.2.2.2.2.2.1), (List.take (0 + u3.2.2.2.1) u3.2.2.2.2.2.2.2.2))
else
R_f28 _ (fun u4 =>
(bif (!u4.1) then
K (31, u4.2.1, u4.2.2.1, u4.2.2.2.1, u4.2.2.2.2.1, u4.2.2.2.2.2.1, u4.2.2.2.2.2.2.1, (List.take (0 + u4.2.1) u4.2.2.2.2.2.2.2.1), (List.take (0 + u4.2.2.2.1) u4.2.2.2.2.2.2.2.2))
else
loop1 (x0, x1, (Nat.cast ((List.length x1)) : Int), 0, u4.2.1, u4.2.2.1, u4.2.2.2.1, u4.2.2.2.2.1, u4.2.2.2.2.2.1, u4.2.2.2.2.2.2.1, u4.2.2.2.2.2.2.2.1, u4.2.2.2.2.2.2.2.2))) (x0) (x1) (u3.2.1) (u3.2.2.1) (u3.2.2.2.1) (u3.2.2.2.2.1) (u3.2.2.2.2.2.1) (u3.2.2.2.2.2.2.1) (u3.2.2.2.2.2.2.2.1) (u3.2.2.2.2.2.2.2.2))) (x0) ((Nat.cast ((List.length x1)) : Int)) (x2) (x3) (x4) (x5) (x6) (x7) (x8) (x9))
/-- "(*outpost/flash.Flash).Program" -/
def f16_A (R_f25 : f25_R) (R_f28 : f28_R) (R_f27 : f27_R) (k : Nat) : f16_R := fun X K x0 x1 x2 x3 x4 x5 x6 x7 x8 x9 => f16_T R_f25 R_f28 R_f27 k K (iterV (f16_L1 R_f25 R_f28 R_f27 k K) k) x0 x1 x2 x3 x4 x5 x6 x7 x8 x9
set_option maxRecDepth 100000 in
theorem f16_ev' {X : Type} (R_f25 : f25_R) (R_f28 : f28_R) (R_f27 : f27_R) (hR_f25 : AnsOk Try.prog 25 (f25_cOf R_f25)) (hR_f28 : AnsOk Try.prog 28 (f28_cOf R_f28)) (hR_f27 : AnsOk Try.prog 27 (f27_cOf R_f27)) (k : Nat) (K : Out → Option X) (x0 : Int) (x1 : List CV) (x2 : Nat) (x3 : Int) (x4 : Nat) (x5 : Int) (x6 : Int) (x7 : Bool) (x8 : List CV) (x9 : List CV) : evFn (f16_cx R_f25 R_f28 R_f27 hR_f25 hR_f28 hR_f27) [] k Try.f16.ntmps Try.f16.results.toList (Try.f16.body.getD .skip) [(.ptr [1000] 0 0 0), (.v (CV.int .i64 x0)), (.sl false none x1)] [([1000], (.obj [(.osl [0, 1000] none 0 x2), (.v (CV.int .i64 x3)), (.osl [2, 1000] none 0 x4), (.v (CV.int .i64 x5)), (.v (CV.int .i64 x6)), (.v (CV.bool x7))])), ([0, 1000], (.row false none x8)), ([2, 1000], (.row false none x9))] K = f16_T R_f25 R_f28 R_f27 k (fun u => K (f16_out u)) (fun v => iter (loopB (f16_cx R_f25 R_f28 R_f27 hR_f25 hR_f28 hR_f27) k [.r, .r, .l, .r, .b] (Try.f16.body.getD .skip) (retK (f16_cx R_f25 R_f28 R_f27 hR_f25 hR_f28 hR_f27) [] Try.f16.results.toList K) []) k (f16_S1 v)) x0 x1 x2 x3 x4 x5 x6 x7 x8 x9 := by kernel_rfl
theorem f16_ev {X : Type} (R_f25 : f25_R) (R_f28 : f28_R) (R_f27 : f27_R) (hR_f25 : AnsOk Try.prog 25 (f25_cOf R_f25)) (hR_f28 : AnsOk Try.prog 28 (f28_cOf R_f28)) (hR_f27 : AnsOk Try.prog 27 (f27_cOf R_f27)) (k : Nat) (K : Out → Option X) (x0 : Int) (x1 : List CV) (x2 : Nat) (x3 : Int) (x4 : Nat) (x5 : Int) (x6 : Int) (x7 : Bool) (x8 : List CV) (x9 : List CV) : evFn (f16_cx R_f25 R_f28 R_f27 hR_f25 hR_f28 hR_f27) [] k Try.f16.ntmps Try.f16.results.toList (Try.f16.body.getD .skip) [(.ptr [1000] 0 0 0), (.v (CV.int .i64 x0)), (.sl false none x1)] [([1000], (.obj [(.osl [0, 1000] none 0 x2), (.v (CV.int .i64 x3)), (.osl [2, 1000] none 0 x4), (.v (CV.int .i64 x5)), (.v (CV.int .i64 x6)), (.v (CV.bool x7))])), ([0, 1000], (.row false none x8)), ([2, 1000], (.row false none x9))] K = f16_A R_f25 R_f28 R_f27 k X (fun u => K (f16_out u)) x0 x1 x2 x3 x4 x5 x6 x7 x8 x9 := (f16_ev' R_f25 R_f28 R_f27 hR_f25 hR_f28 hR_f27 k K x0 x1 x2 x3 x4 x5 x6 x7 x8 x9).trans (by rw [f16_L1_it R_f25 R_f28 R_f27 hR_f25 hR_f28 hR_f27 k K]; rfl)
theorem f16_okA (R_f25 : f25_R) (R_f28 : f28_R) (R_f27 : f27_R) (hR_f25 : AnsOk Try.prog 25 (f25_cOf R_f25)) (hR_f28 : AnsOk Try.prog 28 (f28_cOf R_f28)) (hR_f27 : AnsOk Try.prog 27 (f27_cOf R_f27)) (k : Nat) : AnsOk Try.prog 16 (f16_cOf (f16_A R_f25 R_f28 R_f27 k)) := by
  intro X xs ns K x h
  unfold f16_cOf at h ⊢
  split at h
  · exact ans_main S (f16_Cok R_f25 R_f28 R_f27 hR_f25 hR_f28 hR_f27) Try.func16 (ent_of Try.func16 (by kernel_rfl) rfl) rfl (fun X K => f16_ev R_f25 R_f28 R_f27 hR_f25 hR_f28 hR_f27 k K _ _ _ _ _ _ _ _ _ _) h
  · cases h
/-- "(*outpost/flash.Flash).Program" -/
def f16 {X : Type} (k : Nat) (K : Int × Nat × Int × Nat × Int × Int × Bool × (List CV) × (List CV) → Option X) (x0 : Int) (x1 : List CV) (x2 : Nat) (x3 : Int) (x4 : Nat) (x5 : Int) (x6 : Int) (x7 : Bool) (x8 : List CV) (x9 : List CV) : Option X := f16_A (fun X => @f25 X k) (fun X => @f28 X k) (fun X => @f27 X k) k X K x0 x1 x2 x3 x4 x5 x6 x7 x8 x9
theorem f16_ok (k : Nat) : AnsOk Try.prog 16 (f16_cOf (fun X => @f16 X k)) := f16_okA (fun X => @f25 X k) (fun X => @f28 X k) (fun X => @f27 X k) (f25_ok k) (f28_ok k) (f27_ok k) k
def f26_plan : Nat → Option (List Nat × List Wk)
  | 0 => some ([0], [])
  | 1 => some ([0], [])
  | 2 => some ([], [])
  | 3 => some ([0], [])
  | _ => none
def f26_cx : Cx := mkCx (tabOf rows) noC md (cmpIn cmps) f26_plan (noC_ok (P := Try.prog))
/-- "slices.Clone[[]byte,byte]" -/
def f26 {X : Type} (k : Nat) (K : List CV → Option X) (x0 : List CV) : Option X := grd (decide ((0 + List.length x0) * 1 ≤ 140737488355328)) (K x0)
def f26_out (u : List CV) : Out := ⟨.osl [2000] none 0 (List.length u), [([2000], .row false none u)]⟩
set_option maxRecDepth 100000 in
theorem f26_fn (x0 : List CV) (hl : (decide ((0 + List.length x0) * 1 ≤ 140737488355328)) = true) : FnOk Try.prog 26 [.sl false none x0] [] (f26_out x0) := by
  refine nilsplit (cx := f26_cx) (xs := x0) (p := false) (sh := none) (fuel := 1) (ws := [⟨0, [], some [2000]⟩]) (tabOf_tabOk S.hr) (tabOf_noOther S.hr) (CsOk.fns (noC_ok (P := Try.prog)) (cmpsAre_ok cmps_ok)) S.hm Try.func26 rfl rfl Try.underlying25 (s1 := ⟨[(.sl false none x0), .undef, (.nil0 none), .undef, .undef, .undef, .undef, .undef], []⟩) (s2 := ⟨[(.sl false none x0), .undef, .undef, .undef, .undef, .undef, .undef, .undef], []⟩) (s3 := ⟨[(.sl false none x0), .undef, .undef, (.sl false none x0), .undef, .undef, .undef, .undef], []⟩) ?_ ?_ ?_ rfl ?_ (fun h => ?_) ⟨rfl, rfl⟩
  · kernel_rfl
  · kernel_rfl
  · kernel_rfl
  · refine Eq.trans (b := grd (decide ((0 + List.length x0) * 1 ≤ 140737488355328)) (some ⟨.osl [2000] none 0 (0 + List.length x0), [([2000], .row false none (List.take (0 + (0 + List.length x0)) (List.take 0 [] ++ x0)))]⟩)) (by kernel_rfl) ?_
    rw [hl]
    simp [grd, f26_out]
  · subst h
    kernel_rfl
abbrev f26_R : Type 1 := (X : Type) → (List CV → Option X) → List CV → Option X
def f26_cOf (R : f26_R) : FnC := fun X xs ns K => match xs, ns with
  | [.sl false none x0], [] => R X (fun u => K (f26_out u)) x0
  | _, _ => none
theorem f26_ok (k : Nat) : AnsOk Try.prog 26 (f26_cOf (fun X => @f26 X k)) := by
  intro X xs ns K x h
  unfold f26_cOf at h ⊢
  split at h
  · next x0 =>
    obtain ⟨h1, h2⟩ := grd_some (show grd (decide ((0 + List.length x0) * 1 ≤ 140737488355328)) (K (f26_out x0)) = some x from h)
    exact ⟨trivial, _, (f26_fn x0 h1).toX (ent_of Try.func26 (by kernel_rfl) rfl), h2, fun Y K' => by show grd _ _ = _; rw [h1]; rfl⟩
  · cases h
abbrev f9_R : Type 1 := (X : Type) → (Nat × Int × Nat × Int × Nat × Int × Int × Bool × (List CV) × (List CV) × (List CV) → Option X) → Int → Int → Nat → Int → Nat → Int → Int → Bool → (List CV) → (List CV) → Option X
def f9_out (u : Nat × Int × Nat × Int × Nat × Int × Int × Bool × (List CV) × (List CV) × (List CV)) : Out := ⟨(.tup [(.osl [0, 2000] none 0 u.1), (.v (CV.int .i64 u.2.1))]), [([1000], (.obj [(.osl [0, 1000] none 0 u.2.2.1), (.v (CV.int .i64 u.2.2.2.1)), (.osl [2, 1000] none 0 u.2.2.2.2.1), (.v (CV.int .i64 u.2.2.2.2.2.1)), (.v (CV.int .i64 u.2.2.2.2.2.2.1)), (.v (CV.bool u.2.2.2.2.2.2.2.1))])), ([0, 1000], (.row false none u.2.2.2.2.2.2.2.2.1)), ([2, 1000], (.row false none u.2.2.2.2.2.2.2.2.2.1)), ([0, 2000], (.row false none u.2.2.2.2.2.2.2.2.2.2))]⟩
def f9_cOf (R : f9_R) : FnC := fun X xs ns K => match xs, ns with
  | [(.ptr [1000] 0 0 0), (.v (CV.int .i64 x0)), (.v (CV.int .i64 x1))], [([1000], (.obj [(.osl [0, 1000] none 0 x2), (.v (CV.int .i64 x3)), (.osl [2, 1000] none 0 x4), (.v (CV.int .i64 x5)), (.v (CV.int .i64 x6)), (.v (CV.bool x7))])), ([0, 1000], (.row false none x8)), ([2, 1000], (.row false none x9))] => R X (fun u => K (f9_out u)) x0 x1 x2 x3 x4 x5 x6 x7 x8 x9
  | _, _ => none
def f9_plan : Nat → Option (List Nat × List Wk)
  | 0 => some ([0, 1, 2], [])
  | 1 => some ([0, 1, 2], [])
  | 2 => some ([], [])
  | 3 => some ([0, 1, 2], [])
  | 4 => some ([], [])
  | 5 => some ([0, 1, 2], [])
  | _ => none
def f9_C (R_f25 : f25_R) (R_f26 : f26_R) : Fns := (orC 25 (f25_cOf R_f25) (orC 26 (f26_cOf R_f26) noC))
theorem f9_Cok (R_f25 : f25_R) (R_f26 : f26_R) (hR_f25 : AnsOk Try.prog 25 (f25_cOf R_f25)) (hR_f26 : AnsOk Try.prog 26 (f26_cOf R_f26)) : CsOk Try.prog (f9_C R_f25 R_f26) := (orC_ok hR_f25 (orC_ok hR_f26 noC_ok))
def f9_cx (R_f25 : f25_R) (R_f26 : f26_R) (hR_f25 : AnsOk Try.prog 25 (f25_cOf R_f25)) (hR_f26 : AnsOk Try.prog 26 (f26_cOf R_f26)) : Cx := mkCx (tabOf rows) (f9_C R_f25 R_f26) md (cmpIn cmps) f9_plan (f9_Cok R_f25 R_f26 hR_f25 hR_f26)
def f9_T {X : Type} (R_f25 : f25_R) (R_f26 : f26_R) (k : Nat) (K : Nat × Int × Nat × Int × Nat × Int × Int × Bool × (List CV) × (List CV) × (List CV) → Option X)  (x0 : Int) (x1 : Int) (x2 : Nat) (x3 : Int) (x4 : Nat) (x5 : Int) (x6 : Int) (x7 : Bool) (x8 : List CV) (x9 : List CV) : Option X :=
(bif x7 then
K (0, 30, x2, x3, x4, x5, x6, x7, (List.take (0 + x2) x8), (List.take (0 + x4) x9), (List.take 0 []))
else
R_f25 _ (fun u2 =>
(bif (!u2.1) then
K (0, 1, u2.2.1, u2.2.2.1, u2.2.2.2.1, u2.2.2.2.2.1, u2.2.2.2.2.2.1, u2.2.2.2.2.2.2.1, (List.take (0 + u2.2.1) u2.2.2.2.2.2.2.2.1), (List.take (0 + u2.2.2.2.1) u2.2.2.2.2.2.2.2.2), (List.take 0 []))
else
grd (decide (0 ≤ x0)) <|
grd (decide (x0 ≤ (IntKind.wrap .i64 (x0 + x1)))) <|
grd (decide ((IntKind.wrap .i64 (x0 + x1)) ≤ ((Nat.cast ((List.length u2.2.2.2.2.2.2.2.1)) : Int) - 0))) <|
R_f26 _ (fun u3 =>
K ((List.length u3), 0, u2.2.1, u2.2.2.1, u2.2.2.2.1, u2.2.2.2.2.1, u2.2.2.2.2.2.1, u2.2.2.2.2.2.2.1, (List.take (0 + u2.2.1) u2.2.2.2.2.2.2.2.1), (List.take (0 + u2.2.2.2.1) u2.2.2.2.2.2.2.2.2), (List.take (0 + (List.length u3)) u3))) ((List.take ((Int.toNat (IntKind.wrap .i64 (x0 + x1))) - (Int.toNat x0)) (List.drop (0 + (Int.toNat x0)) u2.2.2.2.2.2.2.2.1))))) (x0) (x1) (x2) (x3) (x4) (x5) (x6) (x7) (x8) (x9))
/-- "(*outpost/flash.Flash).Read" -/
def f9_A (R_f25 : f25_R) (R_f26 : f26_R) (k : Nat) : f9_R := fun X K x0 x1 x2 x3 x4 x5 x6 x7 x8 x9 => f9_T R_f25 R_f26 k K  x0 x1 x2 x3 x4 x5 x6 x7 x8 x9
set_option maxRecDepth 100000 in
theorem f9_ev' {X : Type} (R_f25 : f25_R) (R_f26 : f26_R) (hR_f25 : AnsOk Try.prog 25 (f25_cOf R_f25)) (hR_f26 : AnsOk Try.prog 26 (f26_cOf R_f26)) (k : Nat) (K : Out → Option X) (x0 : Int) (x1 : Int) (x2 : Nat) (x3 : Int) (x4 : Nat) (x5 : Int) (x6 : Int) (x7 : Bool) (x8 : List CV) (x9 : List CV) : evFn (f9_cx R_f25 R_f26 hR_f25 hR_f26) [⟨0, [0], some [0, 2000]⟩] k Try.f9.ntmps Try.f9.results.toList (Try.f9.body.getD .skip) [(.ptr [1000] 0 0 0), (.v (CV.int .i64 x0)), (.v (CV.int .i64 x1))] [([1000], (.obj [(.osl [0, 1000] none 0 x2), (.v (CV.int .i64 x3)), (.osl [2, 1000] none 0 x4), (.v (CV.int .i64 x5)), (.v (CV.int .i64 x6)), (.v (CV.bool x7))])), ([0, 1000], (.row false none x8)), ([2, 1000], (.row false none x9))] K = f9_T R_f25 R_f26 k (fun u => K (f9_out u)) x0 x1 x2 x3 x4 x5 x6 x7 x8 x9 := by kernel_rfl
theorem f9_ev {X : Type} (R_f25 : f25_R) (R_f26 : f26_R) (hR_f25 : AnsOk Try.prog 25 (f25_cOf R_f25)) (hR_f26 : AnsOk Try.prog 26 (f26_cOf R_f26)) (k : Nat) (K : Out → Option X) (x0 : Int) (x1 : Int) (x2 : Nat) (x3 : Int) (x4 : Nat) (x5 : Int) (x6 : Int) (x7 : Bool) (x8 : List CV) (x9 : List CV) : evFn (f9_cx R_f25 R_f26 hR_f25 hR_f26) [⟨0, [0], some [0, 2000]⟩] k Try.f9.ntmps Try.f9.results.toList (Try.f9.body.getD .skip) [(.ptr [1000] 0 0 0), (.v (CV.int .i64 x0)), (.v (CV.int .i64 x1))] [([1000], (.obj [(.osl [0, 1000] none 0 x2), (.v (CV.int .i64 x3)), (.osl [2, 1000] none 0 x4), (.v (CV.int .i64 x5)), (.v (CV.int .i64 x6)), (.v (CV.bool x7))])), ([0, 1000], (.row false none x8)), ([2, 1000], (.row false none x9))] K = f9_A R_f25 R_f26 k X (fun u => K (f9_out u)) x0 x1 x2 x3 x4 x5 x6 x7 x8 x9 := (f9_ev' R_f25 R_f26 hR_f25 hR_f26 k K x0 x1 x2 x3 x4 x5 x6 x7 x8 x9).trans rfl
theorem f9_okA (R_f25 : f25_R) (R_f26 : f26_R) (hR_f25 : AnsOk Try.prog 25 (f25_cOf R_f25)) (hR_f26 : AnsOk Try.prog 26 (f26_cOf R_f26)) (k : Nat) : AnsOk Try.prog 9 (f9_cOf (f9_A R_f25 R_f26 k)) := by
  intro X xs ns K x h
  unfold f9_cOf at h ⊢
  split at h
  · exact ans_main S (f9_Cok R_f25 R_f26 hR_f25 hR_f26) Try.func9 (ent_of Try.func9 (by kernel_rfl) rfl) rfl (fun X K => f9_ev R_f25 R_f26 hR_f25 hR_f26 k K _ _ _ _ _ _ _ _ _ _) h
  · cases h
/-- "(*outpost/flash.Flash).Read" -/
def f9 {X : Type} (k : Nat) (K : Nat × Int × Nat × Int × Nat × Int × Int × Bool × (List CV) × (List CV) × (List CV) → Option X) (x0 : Int) (x1 : Int) (x2 : Nat) (x3 : Int) (x4 : Nat) (x5 : Int) (x6 : Int) (x7 : Bool) (x8 : List CV) (x9 : List CV) : Option X := f9_A (fun X => @f25 X k) (fun X => @f26 X k) k X K x0 x1 x2 x3 x4 x5 x6 x7 x8 x9
theorem f9_ok (k : Nat) : AnsOk Try.prog 9 (f9_cOf (fun X => @f9 X k)) := f9_okA (fun X => @f25 X k) (fun X => @f26 X k) (f25_ok k) (f26_ok k) k
abbrev f17_R : Type 1 := (X : Type) → (Nat × Int × Nat × Int × Int × Bool × (List CV) × (List CV) → Option X) → Int → Nat → Int → Nat → Int → Int → Bool → (List CV) → (List CV) → Option X
def f17_out (u : Nat × Int × Nat × Int × Int × Bool × (List CV) × (List CV)) : Out := ⟨(.tup []), [([1000], (.obj [(.osl [0, 1000] none 0 u.1), (.v (CV.int .i64 u.2.1)), (.osl [2, 1000] none 0 u.2.2.1), (.v (CV.int .i64 u.2.2.2.1)), (.v (CV.int .i64 u.2.2.2.2.1)), (.v (CV.bool u.2.2.2.2.2.1))])), ([0, 1000], (.row false none u.2.2.2.2.2.2.1)), ([2, 1000], (.row false none u.2.2.2.2.2.2.2))]⟩
def f17_cOf (R : f17_R) : FnC := fun X xs ns K => match xs, ns with
  | [(.ptr [1000] 0 0 0), (.v (CV.int .i64 x0))], [([1000], (.obj [(.osl [0, 1000] none 0 x1), (.v (CV.int .i64 x2)), (.osl [2, 1000] none 0 x3), (.v (CV.int .i64 x4)), (.v (CV.int .i64 x5)), (.v (CV.bool x6))])), ([0, 1000], (.row false none x7)), ([2, 1000], (.row false none x8))] => R X (fun u => K (f17_out u)) x0 x1 x2 x3 x4 x5 x6 x7 x8
  | _, _ => none
def f17_plan : Nat → Option (List Nat × List Wk)
  | 0 => some ([0, 1], [])
  | _ => none
def f17_C : Fns := noC
theorem f17_Cok : CsOk Try.prog (f17_C) := noC_ok
def f17_cx : Cx := mkCx (tabOf rows) (f17_C) md (cmpIn cmps) f17_plan (f17_Cok)
def f17_T {X : Type} (k : Nat) (K : Nat × Int × Nat × Int × Int × Bool × (List CV) × (List CV) → Option X)  (x0 : Int) (x1 : Nat) (x2 : Int) (x3 : Nat) (x4 : Int) (x5 : Int) (x6 : Bool) (x7 : List CV) (x8 : List CV) : Option X :=
K (x1, x2, x3, x4, (if (-1) > x0 then (-1) else x0), x6, (List.take (0 + x1) x7), (List.take (0 + x3) x8))
/-- "(*outpost/flash.Flash).Cut" -/
def f17_A (k : Nat) : f17_R := fun X K x0 x1 x2 x3 x4 x5 x6 x7 x8 => f17_T k K  x0 x1 x2 x3 x4 x5 x6 x7 x8
set_option maxRecDepth 100000 in
theorem f17_ev' {X : Type} (k : Nat) (K : Out → Option X) (x0 : Int) (x1 : Nat) (x2 : Int) (x3 : Nat) (x4 : Int) (x5 : Int) (x6 : Bool) (x7 : List CV) (x8 : List CV) : evFn (f17_cx) [] k Try.f17.ntmps Try.f17.results.toList (Try.f17.body.getD .skip) [(.ptr [1000] 0 0 0), (.v (CV.int .i64 x0))] [([1000], (.obj [(.osl [0, 1000] none 0 x1), (.v (CV.int .i64 x2)), (.osl [2, 1000] none 0 x3), (.v (CV.int .i64 x4)), (.v (CV.int .i64 x5)), (.v (CV.bool x6))])), ([0, 1000], (.row false none x7)), ([2, 1000], (.row false none x8))] K = f17_T k (fun u => K (f17_out u)) x0 x1 x2 x3 x4 x5 x6 x7 x8 := by kernel_rfl
theorem f17_ev {X : Type} (k : Nat) (K : Out → Option X) (x0 : Int) (x1 : Nat) (x2 : Int) (x3 : Nat) (x4 : Int) (x5 : Int) (x6 : Bool) (x7 : List CV) (x8 : List CV) : evFn (f17_cx) [] k Try.f17.ntmps Try.f17.results.toList (Try.f17.body.getD .skip) [(.ptr [1000] 0 0 0), (.v (CV.int .i64 x0))] [([1000], (.obj [(.osl [0, 1000] none 0 x1), (.v (CV.int .i64 x2)), (.osl [2, 1000] none 0 x3), (.v (CV.int .i64 x4)), (.v (CV.int .i64 x5)), (.v (CV.bool x6))])), ([0, 1000], (.row false none x7)), ([2, 1000], (.row false none x8))] K = f17_A k X (fun u => K (f17_out u)) x0 x1 x2 x3 x4 x5 x6 x7 x8 := (f17_ev' k K x0 x1 x2 x3 x4 x5 x6 x7 x8).trans rfl
theorem f17_okA (k : Nat) : AnsOk Try.prog 17 (f17_cOf (f17_A k)) := by
  intro X xs ns K x h
  unfold f17_cOf at h ⊢
  split at h
  · exact ans_main S (f17_Cok) Try.func17 (ent_of Try.func17 (by kernel_rfl) rfl) rfl (fun X K => f17_ev k K _ _ _ _ _ _ _ _ _) h
  · cases h
/-- "(*outpost/flash.Flash).Cut" -/
def f17 {X : Type} (k : Nat) (K : Nat × Int × Nat × Int × Int × Bool × (List CV) × (List CV) → Option X) (x0 : Int) (x1 : Nat) (x2 : Int) (x3 : Nat) (x4 : Int) (x5 : Int) (x6 : Bool) (x7 : List CV) (x8 : List CV) : Option X := f17_A k X K x0 x1 x2 x3 x4 x5 x6 x7 x8
theorem f17_ok (k : Nat) : AnsOk Try.prog 17 (f17_cOf (fun X => @f17 X k)) := f17_okA k
abbrev f22_R : Type 1 := (X : Type) → (Bool × Nat × Int × Nat × Int × Int × Bool × (List CV) × (List CV) → Option X) → Nat → Int → Nat → Int → Int → Bool → (List CV) → (List CV) → Option X
def f22_out (u : Bool × Nat × Int × Nat × Int × Int × Bool × (List CV) × (List CV)) : Out := ⟨(.v (CV.bool u.1)), [([1000], (.obj [(.osl [0, 1000] none 0 u.2.1), (.v (CV.int .i64 u.2.2.1)), (.osl [2, 1000] none 0 u.2.2.2.1), (.v (CV.int .i64 u.2.2.2.2.1)), (.v (CV.int .i64 u.2.2.2.2.2.1)), (.v (CV.bool u.2.2.2.2.2.2.1))])), ([0, 1000], (.row false none u.2.2.2.2.2.2.2.1)), ([2, 1000], (.row false none u.2.2.2.2.2.2.2.2))]⟩
def f22_cOf (R : f22_R) : FnC := fun X xs ns K => match xs, ns with
  | [(.ptr [1000] 0 0 0)], [([1000], (.obj [(.osl [0, 1000] none 0 x0), (.v (CV.int .i64 x1)), (.osl [2, 1000] none 0 x2), (.v (CV.int .i64 x3)), (.v (CV.int .i64 x4)), (.v (CV.bool x5))])), ([0, 1000], (.row false none x6)), ([2, 1000], (.row false none x7))] => R X (fun u => K (f22_out u)) x0 x1 x2 x3 x4 x5 x6 x7
  | _, _ => none
def f22_plan : Nat → Option (List Nat × List Wk)
  | 0 => some ([0], [])
  | 1 => some ([0], [])
  | _ => none
def f22_C : Fns := noC
theorem f22_Cok : CsOk Try.prog (f22_C) := noC_ok
def f22_cx : Cx := mkCx (tabOf rows) (f22_C) md (cmpIn cmps) f22_plan (f22_Cok)
def f22_T {X : Type} (k : Nat) (K : Bool × Nat × Int × Nat × Int × Int × Bool × (List CV) × (List CV) → Option X)  (x0 : Nat) (x1 : Int) (x2 : Nat) (x3 : Int) (x4 : Int) (x5 : Bool) (x6 : List CV) (x7 : List CV) : Option X :=
K (x5, x0, x1, x2, x3, x4, x5, (List.take (0 + x0) x6), (List.take (0 + x2) x7))
/-- "(*outpost/flash.Flash).Down" -/
def f22_A (k : Nat) : f22_R := fun X K x0 x1 x2 x3 x4 x5 x6 x7 => f22_T k K  x0 x1 x2 x3 x4 x5 x6 x7
set_option maxRecDepth 100000 in
theorem f22_ev' {X : Type} (k : Nat) (K : Out → Option X) (x0 : Nat) (x1 : Int) (x2 : Nat) (x3 : Int) (x4 : Int) (x5 : Bool) (x6 : List CV) (x7 : List CV) : evFn (f22_cx) [] k Try.f22.ntmps Try.f22.results.toList (Try.f22.body.getD .skip) [(.ptr [1000] 0 0 0)] [([1000], (.obj [(.osl [0, 1000] none 0 x0), (.v (CV.int .i64 x1)), (.osl [2, 1000] none 0 x2), (.v (CV.int .i64 x3)), (.v (CV.int .i64 x4)), (.v (CV.bool x5))])), ([0, 1000], (.row false none x6)), ([2, 1000], (.row false none x7))] K = f22_T k (fun u => K (f22_out u)) x0 x1 x2 x3 x4 x5 x6 x7 := by kernel_rfl
theorem f22_ev {X : Type} (k : Nat) (K : Out → Option X) (x0 : Nat) (x1 : Int) (x2 : Nat) (x3 : Int) (x4 : Int) (x5 : Bool) (x6 : List CV) (x7 : List CV) : evFn (f22_cx) [] k Try.f22.ntmps Try.f22.results.toList (Try.f22.body.getD .skip) [(.ptr [1000] 0 0 0)] [([1000], (.obj [(.osl [0, 1000] none 0 x0), (.v (CV.int .i64 x1)), (.osl [2, 1000] none 0 x2), (.v (CV.int .i64 x3)), (.v (CV.int .i64 x4)), (.v (CV.bool x5))])), ([0, 1000], (.row false none x6)), ([2, 1000], (.row false none x7))] K = f22_A k X (fun u => K (f22_out u)) x0 x1 x2 x3 x4 x5 x6 x7 := (f22_ev' k K x0 x1 x2 x3 x4 x5 x6 x7).trans rfl
theorem f22_okA (k : Nat) : AnsOk Try.prog 22 (f22_cOf (f22_A k)) := by
  intro X xs ns K x h
  unfold f22_cOf at h ⊢
  split at h
  · exact ans_main S (f22_Cok) Try.func22 (ent_of Try.func22 (by kernel_rfl) rfl) rfl (fun X K => f22_ev k K _ _ _ _ _ _ _ _) h
  · cases h
/-- "(*outpost/flash.Flash).Down" -/
def f22 {X : Type} (k : Nat) (K : Bool × Nat × Int × Nat × Int × Int × Bool × (List CV) × (List CV) → Option X) (x0 : Nat) (x1 : Int) (x2 : Nat) (x3 : Int) (x4 : Int) (x5 : Bool) (x6 : List CV) (x7 : List CV) : Option X := f22_A k X K x0 x1 x2 x3 x4 x5 x6 x7
theorem f22_ok (k : Nat) : AnsOk Try.prog 22 (f22_cOf (fun X => @f22 X k)) := f22_okA k
abbrev f18_R : Type 1 := (X : Type) → (Nat × Int × Nat × Int × (List CV) × (List CV) → Option X) → Nat → Int → Nat → Int → Int → Bool → (List CV) → (List CV) → Option X
def f18_out (u : Nat × Int × Nat × Int × (List CV) × (List CV)) : Out := ⟨(.tup []), [([1000], (.obj [(.osl [0, 1000] none 0 u.1), (.v (CV.int .i64 u.2.1)), (.osl [2, 1000] none 0 u.2.2.1), (.v (CV.int .i64 u.2.2.2.1)), (.v (CV.int .i64 (-1))), (.v (CV.bool false))])), ([0, 1000], (.row false none u.2.2.2.2.1)), ([2, 1000], (.row false none u.2.2.2.2.2))]⟩
def f18_cOf (R : f18_R) : FnC := fun X xs ns K => match xs, ns with
  | [(.ptr [1000] 0 0 0)], [([1000], (.obj [(.osl [0, 1000] none 0 x0), (.v (CV.int .i64 x1)), (.osl [2, 1000] none 0 x2), (.v (CV.int .i64 x3)), (.v (CV.int .i64 x4)), (.v (CV.bool x5))])), ([0, 1000], (.row false none x6)), ([2, 1000], (.row false none x7))] => R X (fun u => K (f18_out u)) x0 x1 x2 x3 x4 x5 x6 x7
  | _, _ => none
def f18_plan : Nat → Option (List Nat × List Wk)
  | 0 => some ([0], [])
  | _ => none
def f18_C : Fns := noC
theorem f18_Cok : CsOk Try.prog (f18_C) := noC_ok
def f18_cx : Cx := mkCx (tabOf rows) (f18_C) md (cmpIn cmps) f18_plan (f18_Cok)
def f18_T {X : Type} (k : Nat) (K : Nat × Int × Nat × Int × (List CV) × (List CV) → Option X)  (x0 : Nat) (x1 : Int) (x2 : Nat) (x3 : Int) (x4 : Int) (x5 : Bool) (x6 : List CV) (x7 : List CV) : Option X :=
K (x0, x1, x2, x3, (List.take (0 + x0) x6), (List.take (0 + x2) x7))
/-- "(*outpost/flash.Flash).Restore" -/
def f18_A (k : Nat) : f18_R := fun X K x0 x1 x2 x3 x4 x5 x6 x7 => f18_T k K  x0 x1 x2 x3 x4 x5 x6 x7
set_option maxRecDepth 100000 in
theorem f18_ev' {X : Type} (k : Nat) (K : Out → Option X) (x0 : Nat) (x1 : Int) (x2 : Nat) (x3 : Int) (x4 : Int) (x5 : Bool) (x6 : List CV) (x7 : List CV) : evFn (f18_cx) [] k Try.f18.ntmps Try.f18.results.toList (Try.f18.body.getD .skip) [(.ptr [1000] 0 0 0)] [([1000], (.obj [(.osl [0, 1000] none 0 x0), (.v (CV.int .i64 x1)), (.osl [2, 1000] none 0 x2), (.v (CV.int .i64 x3)), (.v (CV.int .i64 x4)), (.v (CV.bool x5))])), ([0, 1000], (.row false none x6)), ([2, 1000], (.row false none x7))] K = f18_T k (fun u => K (f18_out u)) x0 x1 x2 x3 x4 x5 x6 x7 := by kernel_rfl
theorem f18_ev {X : Type} (k : Nat) (K : Out → Option X) (x0 : Nat) (x1 : Int) (x2 : Nat) (x3 : Int) (x4 : Int) (x5 : Bool) (x6 : List CV) (x7 : List CV) : evFn (f18_cx) [] k Try.f18.ntmps Try.f18.results.toList (Try.f18.body.getD .skip) [(.ptr [1000] 0 0 0)] [([1000], (.obj [(.osl [0, 1000] none 0 x0), (.v (CV.int .i64 x1)), (.osl [2, 1000] none 0 x2), (.v (CV.int .i64 x3)), (.v (CV.int .i64 x4)), (.v (CV.bool x5))])), ([0, 1000], (.row false none x6)), ([2, 1000], (.row false none x7))] K = f18_A k X (fun u => K (f18_out u)) x0 x1 x2 x3 x4 x5 x6 x7 := (f18_ev' k K x0 x1 x2 x3 x4 x5 x6 x7).trans rfl
theorem f18_okA (k : Nat) : AnsOk Try.prog 18 (f18_cOf (f18_A k)) := by
  intro X xs ns K x h
  unfold f18_cOf at h ⊢
  split at h
  · exact ans_main S (f18_Cok) Try.func18 (ent_of Try.func18 (by kernel_rfl) rfl) rfl (fun X K => f18_ev k K _ _ _ _ _ _ _ _) h
  · cases h
/-- "(*outpost/flash.Flash).Restore" -/
def f18 {X : Type} (k : Nat) (K : Nat × Int × Nat × Int × (List CV) × (List CV) → Option X) (x0 : Nat) (x1 : Int) (x2 : Nat) (x3 : Int) (x4 : Int) (x5 : Bool) (x6 : List CV) (x7 : List CV) : Option X := f18_A k X K x0 x1 x2 x3 x4 x5 x6 x7
theorem f18_ok (k : Nat) : AnsOk Try.prog 18 (f18_cOf (fun X => @f18 X k)) := f18_okA k
abbrev f12_R : Type 1 := (X : Type) → (Int × Nat × Int × Nat × Int × Int × Bool × (List CV) × (List CV) → Option X) → Int → Nat → Int → Nat → Int → Int → Bool → (List CV) → (List CV) → Option X
def f12_out (u : Int × Nat × Int × Nat × Int × Int × Bool × (List CV) × (List CV)) : Out := ⟨(.v (CV.int .i64 u.1)), [([1000], (.obj [(.osl [0, 1000] none 0 u.2.1), (.v (CV.int .i64 u.2.2.1)), (.osl [2, 1000] none 0 u.2.2.2.1), (.v (CV.int .i64 u.2.2.2.2.1)), (.v (CV.int .i64 u.2.2.2.2.2.1)), (.v (CV.bool u.2.2.2.2.2.2.1))])), ([0, 1000], (.row false none u.2.2.2.2.2.2.2.1)), ([2, 1000], (.row false none u.2.2.2.2.2.2.2.2))]⟩
def f12_cOf (R : f12_R) : FnC := fun X xs ns K => match xs, ns with
  | [(.ptr [1000] 0 0 0), (.v (CV.int .i64 x0))], [([1000], (.obj [(.osl [0, 1000] none 0 x1), (.v (CV.int .i64 x2)), (.osl [2, 1000] none 0 x3), (.v (CV.int .i64 x4)), (.v (CV.int .i64 x5)), (.v (CV.bool x6))])), ([0, 1000], (.row false none x7)), ([2, 1000], (.row false none x8))] => R X (fun u => K (f12_out u)) x0 x1 x2 x3 x4 x5 x6 x7 x8
  | _, _ => none
def f12_plan : Nat → Option (List Nat × List Wk)
  | 0 => some ([0, 1], [])
  | 1 => some ([0, 1], [])
  | 2 => some ([], [])
  | 3 => some ([0, 1], [])
  | 4 => some ([], [])
  | 5 => some ([0, 1], [])
  | 6 => some ([0, 1], [])
  | 7 => some ([0, 1, 41, 42], [])
  | 8 => some ([0, 1, 41, 42], [])
  | 9 => some ([0, 1, 5, 41, 42], [])
  | 10 => some ([], [])
  | 11 => some ([0, 1, 41, 42], [])
  | 12 => some ([], [])
  | _ => none
def f12_C (R_f27 : f27_R) : Fns := (orC 27 (f27_cOf R_f27) noC)
theorem f12_Cok (R_f27 : f27_R) (hR_f27 : AnsOk Try.prog 27 (f27_cOf R_f27)) : CsOk Try.prog (f12_C R_f27) := (orC_ok hR_f27 noC_ok)
def f12_cx (R_f27 : f27_R) (hR_f27 : AnsOk Try.prog 27 (f27_cOf R_f27)) : Cx := mkCx (tabOf rows) (f12_C R_f27) md (cmpIn cmps) f12_plan (f12_Cok R_f27 hR_f27)
def f12_S1 (v : Int × Int × Int × Nat × Int × Nat × Int × Int × Bool × (List CV) × (List CV)) : St := ⟨[(.ptr [1000] 0 0 0), (.v (CV.int .i64 v.1)), .undef, .undef, .undef, .undef, .undef, .undef, .undef, .undef, .undef, .undef, .undef, .undef, .undef, .undef, .undef, .undef, .undef, .undef, .undef, .undef, .undef, .undef, .undef, .undef, .undef, .undef, .undef, .undef, .undef, .undef, .undef, .undef, .undef, .undef, .undef, .undef, .undef, .undef, .undef, (.v (CV.int .i64 v.2.1)), (.v (CV.int .i64 v.2.2.1)), .undef, .undef, .undef, .undef, .undef, .undef, .undef, .undef, .undef, .undef, .undef, .undef, .undef, .undef], [([1000], (.obj [(.osl [0, 1000] none 0 v.2.2.2.1), (.v (CV.int .i64 v.2.2.2.2.1)), (.osl [2, 1000] none 0 v.2.2.2.2.2.1), (.v (CV.int .i64 v.2.2.2.2.2.2.1)), (.v (CV.int .i64 v.2.2.2.2.2.2.2.1)), (.v (CV.bool v.2.2.2.2.2.2.2.2.1))])), ([0, 1000], (.row false none v.2.2.2.2.2.2.2.2.2.1)), ([2, 1000], (.row false none v.2.2.2.2.2.2.2.2.2.2))]⟩
def f12_T1 {X : Type} (R_f27 : f27_R) (k : Nat) (K : Int × Nat × Int × Nat × Int × Int × Bool × (List CV) × (List CV) → Option X)   (rec1 : Int × Int × Int × Nat × Int × Nat × Int × Int × Bool × (List CV) × (List CV) → Option X) (v6_1 : Int × Int × Int × Nat × Int × Nat × Int × Int × Bool × (List CV) × (List CV)) : Option X :=
(bif (decide (v6_1.2.2.1 < v6_1.2.1)) then
R_f27 _ (fun u6 =>
(bif (!u6.1) then
K (30, u6.2.1, u6.2.2.1, u6.2.2.2.1, u6.2.2.2.2.1, u6.2.2.2.2.2.1, u6.2.2.2.2.2.2.1, (List.take (0 + u6.2.1) u6.2.2.2.2.2.2.2.1), (List.take (0 + u6.2.2.2.1) u6.2.2.2.2.2.2.2.2))
else
rec1 (v6_1.1, v6_1.2.1, (IntKind.wrap .i64 (v6_1.2.2.1 + 1)), u6.2.1, u6.2.2.1, u6.2.2.2.1, u6.2.2.2.2.1, u6.2.2.2.2.2.1, u6.2.2.2.2.2.2.1, u6.2.2.2.2.2.2.2.1, u6.2.2.2.2.2.2.2.2))) ((IntKind.wrap .i64 ((IntKind.wrap .i64 (v6_1.1 * v6_1.2.2.2.2.1)) + v6_1.2.2.1))) (255) (v6_1.2.2.2.1) (v6_1.2.2.2.2.1) (v6_1.2.2.2.2.2.1) (v6_1.2.2.2.2.2.2.1) (v6_1.2.2.2.2.2.2.2.1) (v6_1.2.2.2.2.2.2.2.2.1) (v6_1.2.2.2.2.2.2.2.2.2.1) (v6_1.2.2.2.2.2.2.2.2.2.2)
else
K (0, v6_1.2.2.2.1, v6_1.2.2.2.2.1, v6_1.2.2.2.2.2.1, v6_1.2.2.2.2.2.2.1, v6_1.2.2.2.2.2.2.2.1, v6_1.2.2.2.2.2.2.2.2.1, (List.take (0 + v6_1.2.2.2.1) v6_1.2.2.2.2.2.2.2.2.2.1), (List.take (0 + v6_1.2.2.2.2.2.1) v6_1.2.2.2.2.2.2.2.2.2.2)))
def f12_L1 {X : Type} (R_f27 : f27_R) (k : Nat) (K : Int × Nat × Int × Nat × Int × Int × Bool × (List CV) × (List CV) → Option X)  (rec1 : Int × Int × Int × Nat × Int × Nat × Int × Int × Bool × (List CV) × (List CV) → Option X) (v : Int × Int × Int × Nat × Int × Nat × Int × Int × Bool × (List CV) × (List CV)) : Option X := f12_T1 R_f27 k K   rec1 v
set_option maxRecDepth 100000 in
theorem f12_L1_ev {X : Type} (R_f27 : f27_R) (hR_f27 : AnsOk Try.prog 27 (f27_cOf R_f27)) (k : Nat) (K : Out → Option X)  (r1 : St → Option X) (v : Int × Int × Int × Nat × Int × Nat × Int × Int × Bool × (List CV) × (List CV)) : loopB (f12_cx R_f27 hR_f27) k [.r, .r, .r, .l, .r, .b] (Try.f12.body.getD .skip) (retK (f12_cx R_f27 hR_f27) [] Try.f12.results.toList K) [] r1 (f12_S1 v) = f12_T1 R_f27 k (fun u => K (f12_out u))   (fun v => r1 (f12_S1 v)) v := by kernel_rfl
theorem f12_L1_it {X : Type} (R_f27 : f27_R) (hR_f27 : AnsOk Try.prog 27 (f27_cOf R_f27)) (k : Nat) (K : Out → Option X)  : (fun v => iter (loopB (f12_cx R_f27 hR_f27) k [.r, .r, .r, .l, .r, .b] (Try.f12.body.getD .skip) (retK (f12_cx R_f27 hR_f27) [] Try.f12.results.toList K) []) k (f12_S1 v)) = iterV (f12_L1 R_f27 k (fun u => K (f12_out u)) ) k :=
  iter_map (fun r1 v => (f12_L1_ev R_f27 hR_f27 k K  r1 v).trans rfl) k
def f12_T {X : Type} (R_f27 : f27_R) (k : Nat) (K : Int × Nat × Int × Nat × Int × Int × Bool × (List CV) × (List CV) → Option X) (loop1 : Int × Int × Int × Nat × Int × Nat × Int × Int × Bool × (List CV) × (List CV) → Option X) (x0 : Int) (x1 : Nat) (x2 : Int) (x3 : Nat) (x4 : Int) (x5 : Int) (x6 : Bool) (x7 : List CV) (x8 : List CV) : Option X :=
(bif x6 then
K (30, x1, x2, x3, x4, x5, x6, (List.take (0 + x1) x7), (List.take (0 + x3) x8))
else
(bif (decide (x0 < 0)) then
K (1, x1, x2, x3, x4, x5, x6, (List.take (0 + x1) x7), (List.take (0 + x3) x8))
else
(bif (decide (x0 ≥ (Nat.cast (x3) : Int))) then
K (1, x1, x2, x3, x4, x5, x6, (List.take (0 + x1) x7), (List.take (0 + x3) x8))
else
grd (decide (0 ≤ x0)) <|
grd (decide (x0 < (Nat.cast (x3) : Int))) <|
Option.bind (x8)[(0 + (Int.toNat x0))]? fun e1 =>
grd (CV.isI .i64 e1) <|
grd (decide (0 ≤ x0)) <|
grd (decide (x0 < (Nat.cast (x3) : Int))) <|
grd (decide ((0 + (Int.toNat x0)) < (List.length x8))) <|
loop1 (x0, x2, 0, x1, x2, x3, x4, x5, x6, x7, (List.set x8 (0 + (Int.toNat x0)) (CV.int .i64 (if 1073741824 < (IntKind.wrap .i64 ((CV.toI e1) + 1)) then 1073741824 else (IntKind.wrap .i64 ((CV.toI e1) + 1)))))))))
/-- "(*outpost/flash.Flash).Erase" -/
def f12_A (R_f27 : f27_R) (k : Nat) : f12_R := fun X K x0 x1 x2 x3 x4 x5 x6 x7 x8 => f12_T R_f27 k K (iterV (f12_L1 R_f27 k K) k) x0 x1 x2 x3 x4 x5 x6 x7 x8
set_option maxRecDepth 100000 in
theorem f12_ev' {X : Type} (R_f27 : f27_R) (hR_f27 : AnsOk Try.prog 27 (f27_cOf R_f27)) (k : Nat) (K : Out → Option X) (x0 : Int) (x1 : Nat) (x2 : Int) (x3 : Nat) (x4 : Int) (x5 : Int) (x6 : Bool) (x7 : List CV) (x8 : List CV) : evFn (f12_cx R_f27 hR_f27) [] k Try.f12.ntmps Try.f12.results.toList (Try.f12.body.getD .skip) [(.ptr [1000] 0 0 0), (.v (CV.int .i64 x0))] [([1000], (.obj [(.osl [0, 1000] none 0 x1), (.v (CV.int .i64 x2)), (.osl [2, 1000] none 0 x3), (.v (CV.int .i64 x4)), (.v (CV.int .i64 x5)), (.v (CV.bool x6))])), ([0, 1000], (.row false none x7)), ([2, 1000], (.row false none x8))] K = f12_T R_f27 k (fun u => K (f12_out u)) (fun v => iter (loopB (f12_cx R_f27 hR_f27) k [.r, .r, .r, .l, .r, .b] (Try.f12.body.getD .skip) (retK (f12_cx R_f27 hR_f27) [] Try.f12.results.toList K) []) k (f12_S1 v)) x0 x1 x2 x3 x4 x5 x6 x7 x8 := by kernel_rfl
theorem f12_ev {X : Type} (R_f27 : f27_R) (hR_f27 : AnsOk Try.prog 27 (f27_cOf R_f27)) (k : Nat) (K : Out → Option X) (x0 : Int) (x1 : Nat) (x2 : Int) (x3 : Nat) (x4 : Int) (x5 : Int) (x6 : Bool) (x7 : List CV) (x8 : List CV) : evFn (f12_cx R_f27 hR_f27) [] k Try.f12.ntmps Try.f12.results.toList (Try.f12.body.getD .skip) [(.ptr [1000] 0 0 0), (.v (CV.int .i64 x0))] [([1000], (.obj [(.osl [0, 1000] none 0 x1), (.v (CV.int .i64 x2)), (.osl [2, 1000] none 0 x3), (.v (CV.int .i64 x4)), (.v (CV.int .i64 x5)), (.v (CV.bool x6))])), ([0, 1000], (.row false none x7)), ([2, 1000], (.row false none x8))] K = f12_A R_f27 k X (fun u => K (f12_out u)) x0 x1 x2 x3 x4 x5 x6 x7 x8 := (f12_ev' R_f27 hR_f27 k K x0 x1 x2 x3 x4 x5 x6 x7 x8).trans (by rw [f12_L1_it R_f27 hR_f27 k K]; rfl)
theorem f12_okA (R_f27 : f27_R) (hR_f27 : AnsOk Try.prog 27 (f27_cOf R_f27)) (k : Nat) : AnsOk Try.prog 12 (f12_cOf (f12_A R_f27 k)) := by
  intro X xs ns K x h
  unfold f12_cOf at h ⊢
  split at h
  · exact ans_main S (f12_Cok R_f27 hR_f27) Try.func12 (ent_of Try.func12 (by kernel_rfl) rfl) rfl (fun X K => f12_ev R_f27 hR_f27 k K _ _ _ _ _ _ _ _ _) h
  · cases h
/-- "(*outpost/flash.Flash).Erase" -/
def f12 {X : Type} (k : Nat) (K : Int × Nat × Int × Nat × Int × Int × Bool × (List CV) × (List CV) → Option X) (x0 : Int) (x1 : Nat) (x2 : Int) (x3 : Nat) (x4 : Int) (x5 : Int) (x6 : Bool) (x7 : List CV) (x8 : List CV) : Option X := f12_A (fun X => @f27 X k) k X K x0 x1 x2 x3 x4 x5 x6 x7 x8
theorem f12_ok (k : Nat) : AnsOk Try.prog 12 (f12_cOf (fun X => @f12 X k)) := f12_okA (fun X => @f27 X k) (f27_ok k) k
abbrev f23_R : Type 1 := (X : Type) → (Int × Nat × Int × Nat × Int × Int × Bool × (List CV) × (List CV) → Option X) → Int → Nat → Int → Nat → Int → Int → Bool → (List CV) → (List CV) → Option X
def f23_out (u : Int × Nat × Int × Nat × Int × Int × Bool × (List CV) × (List CV)) : Out := ⟨(.v (CV.int .i64 u.1)), [([1000], (.obj [(.osl [0, 1000] none 0 u.2.1), (.v (CV.int .i64 u.2.2.1)), (.osl [2, 1000] none 0 u.2.2.2.1), (.v (CV.int .i64 u.2.2.2.2.1)), (.v (CV.int .i64 u.2.2.2.2.2.1)), (.v (CV.bool u.2.2.2.2.2.2.1))])), ([0, 1000], (.row false none u.2.2.2.2.2.2.2.1)), ([2, 1000], (.row false none u.2.2.2.2.2.2.2.2))]⟩
def f23_cOf (R : f23_R) : FnC := fun X xs ns K => match xs, ns with
  | [(.ptr [1000] 0 0 0), (.v (CV.int .i64 x0))], [([1000], (.obj [(.osl [0, 1000] none 0 x1), (.v (CV.int .i64 x2)), (.osl [2, 1000] none 0 x3), (.v (CV.int .i64 x4)), (.v (CV.int .i64 x5)), (.v (CV.bool x6))])), ([0, 1000], (.row false none x7)), ([2, 1000], (.row false none x8))] => R X (fun u => K (f23_out u)) x0 x1 x2 x3 x4 x5 x6 x7 x8
  | _, _ => none
def f23_plan : Nat → Option (List Nat × List Wk)
  | 0 => some ([0, 1], [])
  | 1 => some ([0, 1], [])
  | 2 => some ([], [])
  | 3 => some ([0, 1], [])
  | _ => none
def f23_C : Fns := noC
theorem f23_Cok : CsOk Try.prog (f23_C) := noC_ok
def f23_cx : Cx := mkCx (tabOf rows) (f23_C) md (cmpIn cmps) f23_plan (f23_Cok)
def f23_T {X : Type} (k : Nat) (K : Int × Nat × Int × Nat × Int × Int × Bool × (List CV) × (List CV) → Option X)  (x0 : Int) (x1 : Nat) (x2 : Int) (x3 : Nat) (x4 : Int) (x5 : Int) (x6 : Bool) (x7 : List CV) (x8 : List CV) : Option X :=
(bif (decide (x0 < 0)) then
K (0, x1, x2, x3, x4, x5, x6, (List.take (0 + x1) x7), (List.take (0 + x3) x8))
else
(bif (decide (x0 ≥ (Nat.cast (x3) : Int))) then
K (0, x1, x2, x3, x4, x5, x6, (List.take (0 + x1) x7), (List.take (0 + x3) x8))
else
grd (decide (0 ≤ x0)) <|
grd (decide (x0 < (Nat.cast (x3) : Int))) <|
Option.bind (x8)[(0 + (Int.toNat x0))]? fun e1 =>
grd (CV.isI .i64 e1) <|
K ((CV.toI e1), x1, x2, x3, x4, x5, x6, (List.take (0 + x1) x7), (List.take (0 + x3) x8))))
/-- "(*outpost/flash.Flash).Wear" -/
def f23_A (k : Nat) : f23_R := fun X K x0 x1 x2 x3 x4 x5 x6 x7 x8 => f23_T k K  x0 x1 x2 x3 x4 x5 x6 x7 x8
set_option maxRecDepth 100000 in
theorem f23_ev' {X : Type} (k : Nat) (K : Out → Option X) (x0 : Int) (x1 : Nat) (x2 : Int) (x3 : Nat) (x4 : Int) (x5 : Int) (x6 : Bool) (x7 : List CV) (x8 : List CV) : evFn (f23_cx) [] k Try.f23.ntmps Try.f23.results.toList (Try.f23.body.getD .skip) [(.ptr [1000] 0 0 0), (.v (CV.int .i64 x0))] [([1000], (.obj [(.osl [0, 1000] none 0 x1), (.v (CV.int .i64 x2)), (.osl [2, 1000] none 0 x3), (.v (CV.int .i64 x4)), (.v (CV.int .i64 x5)), (.v (CV.bool x6))])), ([0, 1000], (.row false none x7)), ([2, 1000], (.row false none x8))] K = f23_T k (fun u => K (f23_out u)) x0 x1 x2 x3 x4 x5 x6 x7 x8 := by kernel_rfl
theorem f23_ev {X : Type} (k : Nat) (K : Out → Option X) (x0 : Int) (x1 : Nat) (x2 : Int) (x3 : Nat) (x4 : Int) (x5 : Int) (x6 : Bool) (x7 : List CV) (x8 : List CV) : evFn (f23_cx) [] k Try.f23.ntmps Try.f23.results.toList (Try.f23.body.getD .skip) [(.ptr [1000] 0 0 0), (.v (CV.int .i64 x0))] [([1000], (.obj [(.osl [0, 1000] none 0 x1), (.v (CV.int .i64 x2)), (.osl [2, 1000] none 0 x3), (.v (CV.int .i64 x4)), (.v (CV.int .i64 x5)), (.v (CV.bool x6))])), ([0, 1000], (.row false none x7)), ([2, 1000], (.row false none x8))] K = f23_A k X (fun u => K (f23_out u)) x0 x1 x2 x3 x4 x5 x6 x7 x8 := (f23_ev' k K x0 x1 x2 x3 x4 x5 x6 x7 x8).trans rfl
theorem f23_okA (k : Nat) : AnsOk Try.prog 23 (f23_cOf (f23_A k)) := by
  intro X xs ns K x h
  unfold f23_cOf at h ⊢
  split at h
  · exact ans_main S (f23_Cok) Try.func23 (ent_of Try.func23 (by kernel_rfl) rfl) rfl (fun X K => f23_ev k K _ _ _ _ _ _ _ _ _) h
  · cases h
/-- "(*outpost/flash.Flash).Wear" -/
def f23 {X : Type} (k : Nat) (K : Int × Nat × Int × Nat × Int × Int × Bool × (List CV) × (List CV) → Option X) (x0 : Int) (x1 : Nat) (x2 : Int) (x3 : Nat) (x4 : Int) (x5 : Int) (x6 : Bool) (x7 : List CV) (x8 : List CV) : Option X := f23_A k X K x0 x1 x2 x3 x4 x5 x6 x7 x8
theorem f23_ok (k : Nat) : AnsOk Try.prog 23 (f23_cOf (fun X => @f23 X k)) := f23_okA k
abbrev f19_R : Type 1 := (X : Type) → (Int × Nat × Int × Nat × Int × Int × Bool × (List CV) × (List CV) → Option X) → Nat → Int → Nat → Int → Int → Bool → (List CV) → (List CV) → Option X
def f19_out (u : Int × Nat × Int × Nat × Int × Int × Bool × (List CV) × (List CV)) : Out := ⟨(.v (CV.int .i64 u.1)), [([1000], (.obj [(.osl [0, 1000] none 0 u.2.1), (.v (CV.int .i64 u.2.2.1)), (.osl [2, 1000] none 0 u.2.2.2.1), (.v (CV.int .i64 u.2.2.2.2.1)), (.v (CV.int .i64 u.2.2.2.2.2.1)), (.v (CV.bool u.2.2.2.2.2.2.1))])), ([0, 1000], (.row false none u.2.2.2.2.2.2.2.1)), ([2, 1000], (.row false none u.2.2.2.2.2.2.2.2))]⟩
def f19_cOf (R : f19_R) : FnC := fun X xs ns K => match xs, ns with
  | [(.ptr [1000] 0 0 0)], [([1000], (.obj [(.osl [0, 1000] none 0 x0), (.v (CV.int .i64 x1)), (.osl [2, 1000] none 0 x2), (.v (CV.int .i64 x3)), (.v (CV.int .i64 x4)), (.v (CV.bool x5))])), ([0, 1000], (.row false none x6)), ([2, 1000], (.row false none x7))] => R X (fun u => K (f19_out u)) x0 x1 x2 x3 x4 x5 x6 x7
  | _, _ => none
def f19_plan : Nat → Option (List Nat × List Wk)
  | 0 => some ([0], [])
  | 1 => some ([0], [])
  | _ => none
def f19_C : Fns := noC
theorem f19_Cok : CsOk Try.prog (f19_C) := noC_ok
def f19_cx : Cx := mkCx (tabOf rows) (f19_C) md (cmpIn cmps) f19_plan (f19_Cok)
def f19_T {X : Type} (k : Nat) (K : Int × Nat × Int × Nat × Int × Int × Bool × (List CV) × (List CV) → Option X)  (x0 : Nat) (x1 : Int) (x2 : Nat) (x3 : Int) (x4 : Int) (x5 : Bool) (x6 : List CV) (x7 : List CV) : Option X :=
K (x3, x0, x1, x2, x3, x4, x5, (List.take (0 + x0) x6), (List.take (0 + x2) x7))
/-- "(*outpost/flash.Flash).Turned" -/
def f19_A (k : Nat) : f19_R := fun X K x0 x1 x2 x3 x4 x5 x6 x7 => f19_T k K  x0 x1 x2 x3 x4 x5 x6 x7
set_option maxRecDepth 100000 in
theorem f19_ev' {X : Type} (k : Nat) (K : Out → Option X) (x0 : Nat) (x1 : Int) (x2 : Nat) (x3 : Int) (x4 : Int) (x5 : Bool) (x6 : List CV) (x7 : List CV) : evFn (f19_cx) [] k Try.f19.ntmps Try.f19.results.toList (Try.f19.body.getD .skip) [(.ptr [1000] 0 0 0)] [([1000], (.obj [(.osl [0, 1000] none 0 x0), (.v (CV.int .i64 x1)), (.osl [2, 1000] none 0 x2), (.v (CV.int .i64 x3)), (.v (CV.int .i64 x4)), (.v (CV.bool x5))])), ([0, 1000], (.row false none x6)), ([2, 1000], (.row false none x7))] K = f19_T k (fun u => K (f19_out u)) x0 x1 x2 x3 x4 x5 x6 x7 := by kernel_rfl
theorem f19_ev {X : Type} (k : Nat) (K : Out → Option X) (x0 : Nat) (x1 : Int) (x2 : Nat) (x3 : Int) (x4 : Int) (x5 : Bool) (x6 : List CV) (x7 : List CV) : evFn (f19_cx) [] k Try.f19.ntmps Try.f19.results.toList (Try.f19.body.getD .skip) [(.ptr [1000] 0 0 0)] [([1000], (.obj [(.osl [0, 1000] none 0 x0), (.v (CV.int .i64 x1)), (.osl [2, 1000] none 0 x2), (.v (CV.int .i64 x3)), (.v (CV.int .i64 x4)), (.v (CV.bool x5))])), ([0, 1000], (.row false none x6)), ([2, 1000], (.row false none x7))] K = f19_A k X (fun u => K (f19_out u)) x0 x1 x2 x3 x4 x5 x6 x7 := (f19_ev' k K x0 x1 x2 x3 x4 x5 x6 x7).trans rfl
theorem f19_okA (k : Nat) : AnsOk Try.prog 19 (f19_cOf (f19_A k)) := by
  intro X xs ns K x h
  unfold f19_cOf at h ⊢
  split at h
  · exact ans_main S (f19_Cok) Try.func19 (ent_of Try.func19 (by kernel_rfl) rfl) rfl (fun X K => f19_ev k K _ _ _ _ _ _ _ _) h
  · cases h
/-- "(*outpost/flash.Flash).Turned" -/
def f19 {X : Type} (k : Nat) (K : Int × Nat × Int × Nat × Int × Int × Bool × (List CV) × (List CV) → Option X) (x0 : Nat) (x1 : Int) (x2 : Nat) (x3 : Int) (x4 : Int) (x5 : Bool) (x6 : List CV) (x7 : List CV) : Option X := f19_A k X K x0 x1 x2 x3 x4 x5 x6 x7
theorem f19_ok (k : Nat) : AnsOk Try.prog 19 (f19_cOf (fun X => @f19 X k)) := f19_okA k
abbrev f10_R : Type 1 := (X : Type) → (Int × Nat × Int × Nat × Int × Int × Bool × (List CV) × (List CV) → Option X) → Nat → Int → Nat → Int → Int → Bool → (List CV) → (List CV) → Option X
def f10_out (u : Int × Nat × Int × Nat × Int × Int × Bool × (List CV) × (List CV)) : Out := ⟨(.v (CV.int .i64 u.1)), [([1000], (.obj [(.osl [0, 1000] none 0 u.2.1), (.v (CV.int .i64 u.2.2.1)), (.osl [2, 1000] none 0 u.2.2.2.1), (.v (CV.int .i64 u.2.2.2.2.1)), (.v (CV.int .i64 u.2.2.2.2.2.1)), (.v (CV.bool u.2.2.2.2.2.2.1))])), ([0, 1000], (.row false none u.2.2.2.2.2.2.2.1)), ([2, 1000], (.row false none u.2.2.2.2.2.2.2.2))]⟩
def f10_cOf (R : f10_R) : FnC := fun X xs ns K => match xs, ns with
  | [(.ptr [1000] 0 0 0)], [([1000], (.obj [(.osl [0, 1000] none 0 x0), (.v (CV.int .i64 x1)), (.osl [2, 1000] none 0 x2), (.v (CV.int .i64 x3)), (.v (CV.int .i64 x4)), (.v (CV.bool x5))])), ([0, 1000], (.row false none x6)), ([2, 1000], (.row false none x7))] => R X (fun u => K (f10_out u)) x0 x1 x2 x3 x4 x5 x6 x7
  | _, _ => none
def f10_plan : Nat → Option (List Nat × List Wk)
  | 0 => some ([0], [])
  | 1 => some ([0], [])
  | _ => none
def f10_C : Fns := noC
theorem f10_Cok : CsOk Try.prog (f10_C) := noC_ok
def f10_cx : Cx := mkCx (tabOf rows) (f10_C) md (cmpIn cmps) f10_plan (f10_Cok)
def f10_T {X : Type} (k : Nat) (K : Int × Nat × Int × Nat × Int × Int × Bool × (List CV) × (List CV) → Option X)  (x0 : Nat) (x1 : Int) (x2 : Nat) (x3 : Int) (x4 : Int) (x5 : Bool) (x6 : List CV) (x7 : List CV) : Option X :=
K ((Nat.cast (x0) : Int), x0, x1, x2, x3, x4, x5, (List.take (0 + x0) x6), (List.take (0 + x2) x7))
/-- "(*outpost/flash.Flash).Size" -/
def f10_A (k : Nat) : f10_R := fun X K x0 x1 x2 x3 x4 x5 x6 x7 => f10_T k K  x0 x1 x2 x3 x4 x5 x6 x7
set_option maxRecDepth 100000 in
theorem f10_ev' {X : Type} (k : Nat) (K : Out → Option X) (x0 : Nat) (x1 : Int) (x2 : Nat) (x3 : Int) (x4 : Int) (x5 : Bool) (x6 : List CV) (x7 : List CV) : evFn (f10_cx) [] k Try.f10.ntmps Try.f10.results.toList (Try.f10.body.getD .skip) [(.ptr [1000] 0 0 0)] [([1000], (.obj [(.osl [0, 1000] none 0 x0), (.v (CV.int .i64 x1)), (.osl [2, 1000] none 0 x2), (.v (CV.int .i64 x3)), (.v (CV.int .i64 x4)), (.v (CV.bool x5))])), ([0, 1000], (.row false none x6)), ([2, 1000], (.row false none x7))] K = f10_T k (fun u => K (f10_out u)) x0 x1 x2 x3 x4 x5 x6 x7 := by kernel_rfl
theorem f10_ev {X : Type} (k : Nat) (K : Out → Option X) (x0 : Nat) (x1 : Int) (x2 : Nat) (x3 : Int) (x4 : Int) (x5 : Bool) (x6 : List CV) (x7 : List CV) : evFn (f10_cx) [] k Try.f10.ntmps Try.f10.results.toList (Try.f10.body.getD .skip) [(.ptr [1000] 0 0 0)] [([1000], (.obj [(.osl [0, 1000] none 0 x0), (.v (CV.int .i64 x1)), (.osl [2, 1000] none 0 x2), (.v (CV.int .i64 x3)), (.v (CV.int .i64 x4)), (.v (CV.bool x5))])), ([0, 1000], (.row false none x6)), ([2, 1000], (.row false none x7))] K = f10_A k X (fun u => K (f10_out u)) x0 x1 x2 x3 x4 x5 x6 x7 := (f10_ev' k K x0 x1 x2 x3 x4 x5 x6 x7).trans rfl
theorem f10_okA (k : Nat) : AnsOk Try.prog 10 (f10_cOf (f10_A k)) := by
  intro X xs ns K x h
  unfold f10_cOf at h ⊢
  split at h
  · exact ans_main S (f10_Cok) Try.func10 (ent_of Try.func10 (by kernel_rfl) rfl) rfl (fun X K => f10_ev k K _ _ _ _ _ _ _ _) h
  · cases h
/-- "(*outpost/flash.Flash).Size" -/
def f10 {X : Type} (k : Nat) (K : Int × Nat × Int × Nat × Int × Int × Bool × (List CV) × (List CV) → Option X) (x0 : Nat) (x1 : Int) (x2 : Nat) (x3 : Int) (x4 : Int) (x5 : Bool) (x6 : List CV) (x7 : List CV) : Option X := f10_A k X K x0 x1 x2 x3 x4 x5 x6 x7
theorem f10_ok (k : Nat) : AnsOk Try.prog 10 (f10_cOf (fun X => @f10 X k)) := f10_okA k
abbrev f11_R : Type 1 := (X : Type) → (Int × Nat × Int × Nat × Int × Int × Bool × (List CV) × (List CV) → Option X) → Nat → Int → Nat → Int → Int → Bool → (List CV) → (List CV) → Option X
def f11_out (u : Int × Nat × Int × Nat × Int × Int × Bool × (List CV) × (List CV)) : Out := ⟨(.v (CV.int .i64 u.1)), [([1000], (.obj [(.osl [0, 1000] none 0 u.2.1), (.v (CV.int .i64 u.2.2.1)), (.osl [2, 1000] none 0 u.2.2.2.1), (.v (CV.int .i64 u.2.2.2.2.1)), (.v (CV.int .i64 u.2.2.2.2.2.1)), (.v (CV.bool u.2.2.2.2.2.2.1))])), ([0, 1000], (.row false none u.2.2.2.2.2.2.2.1)), ([2, 1000], (.row false none u.2.2.2.2.2.2.2.2))]⟩
def f11_cOf (R : f11_R) : FnC := fun X xs ns K => match xs, ns with
  | [(.ptr [1000] 0 0 0)], [([1000], (.obj [(.osl [0, 1000] none 0 x0), (.v (CV.int .i64 x1)), (.osl [2, 1000] none 0 x2), (.v (CV.int .i64 x3)), (.v (CV.int .i64 x4)), (.v (CV.bool x5))])), ([0, 1000], (.row false none x6)), ([2, 1000], (.row false none x7))] => R X (fun u => K (f11_out u)) x0 x1 x2 x3 x4 x5 x6 x7
  | _, _ => none
def f11_plan : Nat → Option (List Nat × List Wk)
  | 0 => some ([0], [])
  | 1 => some ([0], [])
  | _ => none
def f11_C : Fns := noC
theorem f11_Cok : CsOk Try.prog (f11_C) := noC_ok
def f11_cx : Cx := mkCx (tabOf rows) (f11_C) md (cmpIn cmps) f11_plan (f11_Cok)
def f11_T {X : Type} (k : Nat) (K : Int × Nat × Int × Nat × Int × Int × Bool × (List CV) × (List CV) → Option X)  (x0 : Nat) (x1 : Int) (x2 : Nat) (x3 : Int) (x4 : Int) (x5 : Bool) (x6 : List CV) (x7 : List CV) : Option X :=
K (x1, x0, x1, x2, x3, x4, x5, (List.take (0 + x0) x6), (List.take (0 + x2) x7))
/-- "(*outpost/flash.Flash).Sector" -/
def f11_A (k : Nat) : f11_R := fun X K x0 x1 x2 x3 x4 x5 x6 x7 => f11_T k K  x0 x1 x2 x3 x4 x5 x6 x7
set_option maxRecDepth 100000 in
theorem f11_ev' {X : Type} (k : Nat) (K : Out → Option X) (x0 : Nat) (x1 : Int) (x2 : Nat) (x3 : Int) (x4 : Int) (x5 : Bool) (x6 : List CV) (x7 : List CV) : evFn (f11_cx) [] k Try.f11.ntmps Try.f11.results.toList (Try.f11.body.getD .skip) [(.ptr [1000] 0 0 0)] [([1000], (.obj [(.osl [0, 1000] none 0 x0), (.v (CV.int .i64 x1)), (.osl [2, 1000] none 0 x2), (.v (CV.int .i64 x3)), (.v (CV.int .i64 x4)), (.v (CV.bool x5))])), ([0, 1000], (.row false none x6)), ([2, 1000], (.row false none x7))] K = f11_T k (fun u => K (f11_out u)) x0 x1 x2 x3 x4 x5 x6 x7 := by kernel_rfl
theorem f11_ev {X : Type} (k : Nat) (K : Out → Option X) (x0 : Nat) (x1 : Int) (x2 : Nat) (x3 : Int) (x4 : Int) (x5 : Bool) (x6 : List CV) (x7 : List CV) : evFn (f11_cx) [] k Try.f11.ntmps Try.f11.results.toList (Try.f11.body.getD .skip) [(.ptr [1000] 0 0 0)] [([1000], (.obj [(.osl [0, 1000] none 0 x0), (.v (CV.int .i64 x1)), (.osl [2, 1000] none 0 x2), (.v (CV.int .i64 x3)), (.v (CV.int .i64 x4)), (.v (CV.bool x5))])), ([0, 1000], (.row false none x6)), ([2, 1000], (.row false none x7))] K = f11_A k X (fun u => K (f11_out u)) x0 x1 x2 x3 x4 x5 x6 x7 := (f11_ev' k K x0 x1 x2 x3 x4 x5 x6 x7).trans rfl
theorem f11_okA (k : Nat) : AnsOk Try.prog 11 (f11_cOf (f11_A k)) := by
  intro X xs ns K x h
  unfold f11_cOf at h ⊢
  split at h
  · exact ans_main S (f11_Cok) Try.func11 (ent_of Try.func11 (by kernel_rfl) rfl) rfl (fun X K => f11_ev k K _ _ _ _ _ _ _ _) h
  · cases h
/-- "(*outpost/flash.Flash).Sector" -/
def f11 {X : Type} (k : Nat) (K : Int × Nat × Int × Nat × Int × Int × Bool × (List CV) × (List CV) → Option X) (x0 : Nat) (x1 : Int) (x2 : Nat) (x3 : Int) (x4 : Int) (x5 : Bool) (x6 : List CV) (x7 : List CV) : Option X := f11_A k X K x0 x1 x2 x3 x4 x5 x6 x7
theorem f11_ok (k : Nat) : AnsOk Try.prog 11 (f11_cOf (fun X => @f11 X k)) := f11_okA k
abbrev f14_R : Type 1 := (X : Type) → (Nat × Nat × Int × Nat × Int × Int × Bool × (List CV) × (List CV) × (List CV) → Option X) → Nat → Int → Nat → Int → Int → Bool → (List CV) → (List CV) → Option X
def f14_out (u : Nat × Nat × Int × Nat × Int × Int × Bool × (List CV) × (List CV) × (List CV)) : Out := ⟨(.osl [2000] none 0 u.1), [([1000], (.obj [(.osl [0, 1000] none 0 u.2.1), (.v (CV.int .i64 u.2.2.1)), (.osl [2, 1000] none 0 u.2.2.2.1), (.v (CV.int .i64 u.2.2.2.2.1)), (.v (CV.int .i64 u.2.2.2.2.2.1)), (.v (CV.bool u.2.2.2.2.2.2.1))])), ([0, 1000], (.row false none u.2.2.2.2.2.2.2.1)), ([2, 1000], (.row false none u.2.2.2.2.2.2.2.2.1)), ([2000], (.row false none u.2.2.2.2.2.2.2.2.2))]⟩
def f14_cOf (R : f14_R) : FnC := fun X xs ns K => match xs, ns with
  | [(.ptr [1000] 0 0 0)], [([1000], (.obj [(.osl [0, 1000] none 0 x0), (.v (CV.int .i64 x1)), (.osl [2, 1000] none 0 x2), (.v (CV.int .i64 x3)), (.v (CV.int .i64 x4)), (.v (CV.bool x5))])), ([0, 1000], (.row false none x6)), ([2, 1000], (.row false none x7))] => R X (fun u => K (f14_out u)) x0 x1 x2 x3 x4 x5 x6 x7
  | _, _ => none
def f14_plan : Nat → Option (List Nat × List Wk)
  | 0 => some ([0], [])
  | 1 => some ([0], [])
  | _ => none
def f14_C (R_f26 : f26_R) : Fns := (orC 26 (f26_cOf R_f26) noC)
theorem f14_Cok (R_f26 : f26_R) (hR_f26 : AnsOk Try.prog 26 (f26_cOf R_f26)) : CsOk Try.prog (f14_C R_f26) := (orC_ok hR_f26 noC_ok)
def f14_cx (R_f26 : f26_R) (hR_f26 : AnsOk Try.prog 26 (f26_cOf R_f26)) : Cx := mkCx (tabOf rows) (f14_C R_f26) md (cmpIn cmps) f14_plan (f14_Cok R_f26 hR_f26)
def f14_T {X : Type} (R_f26 : f26_R) (k : Nat) (K : Nat × Nat × Int × Nat × Int × Int × Bool × (List CV) × (List CV) × (List CV) → Option X)  (x0 : Nat) (x1 : Int) (x2 : Nat) (x3 : Int) (x4 : Int) (x5 : Bool) (x6 : List CV) (x7 : List CV) : Option X :=
R_f26 _ (fun u1 =>
K ((List.length u1), x0, x1, x2, x3, x4, x5, (List.take (0 + x0) x6), (List.take (0 + x2) x7), (List.take (0 + (List.length u1)) u1))) ((List.take x0 (List.drop 0 x6)))
/-- "(*outpost/flash.Flash).Image" -/
def f14_A (R_f26 : f26_R) (k : Nat) : f14_R := fun X K x0 x1 x2 x3 x4 x5 x6 x7 => f14_T R_f26 k K  x0 x1 x2 x3 x4 x5 x6 x7
set_option maxRecDepth 100000 in
theorem f14_ev' {X : Type} (R_f26 : f26_R) (hR_f26 : AnsOk Try.prog 26 (f26_cOf R_f26)) (k : Nat) (K : Out → Option X) (x0 : Nat) (x1 : Int) (x2 : Nat) (x3 : Int) (x4 : Int) (x5 : Bool) (x6 : List CV) (x7 : List CV) : evFn (f14_cx R_f26 hR_f26) [] k Try.f14.ntmps Try.f14.results.toList (Try.f14.body.getD .skip) [(.ptr [1000] 0 0 0)] [([1000], (.obj [(.osl [0, 1000] none 0 x0), (.v (CV.int .i64 x1)), (.osl [2, 1000] none 0 x2), (.v (CV.int .i64 x3)), (.v (CV.int .i64 x4)), (.v (CV.bool x5))])), ([0, 1000], (.row false none x6)), ([2, 1000], (.row false none x7))] K = f14_T R_f26 k (fun u => K (f14_out u)) x0 x1 x2 x3 x4 x5 x6 x7 := by kernel_rfl
theorem f14_ev {X : Type} (R_f26 : f26_R) (hR_f26 : AnsOk Try.prog 26 (f26_cOf R_f26)) (k : Nat) (K : Out → Option X) (x0 : Nat) (x1 : Int) (x2 : Nat) (x3 : Int) (x4 : Int) (x5 : Bool) (x6 : List CV) (x7 : List CV) : evFn (f14_cx R_f26 hR_f26) [] k Try.f14.ntmps Try.f14.results.toList (Try.f14.body.getD .skip) [(.ptr [1000] 0 0 0)] [([1000], (.obj [(.osl [0, 1000] none 0 x0), (.v (CV.int .i64 x1)), (.osl [2, 1000] none 0 x2), (.v (CV.int .i64 x3)), (.v (CV.int .i64 x4)), (.v (CV.bool x5))])), ([0, 1000], (.row false none x6)), ([2, 1000], (.row false none x7))] K = f14_A R_f26 k X (fun u => K (f14_out u)) x0 x1 x2 x3 x4 x5 x6 x7 := (f14_ev' R_f26 hR_f26 k K x0 x1 x2 x3 x4 x5 x6 x7).trans rfl
theorem f14_okA (R_f26 : f26_R) (hR_f26 : AnsOk Try.prog 26 (f26_cOf R_f26)) (k : Nat) : AnsOk Try.prog 14 (f14_cOf (f14_A R_f26 k)) := by
  intro X xs ns K x h
  unfold f14_cOf at h ⊢
  split at h
  · exact ans_main S (f14_Cok R_f26 hR_f26) Try.func14 (ent_of Try.func14 (by kernel_rfl) rfl) rfl (fun X K => f14_ev R_f26 hR_f26 k K _ _ _ _ _ _ _ _) h
  · cases h
/-- "(*outpost/flash.Flash).Image" -/
def f14 {X : Type} (k : Nat) (K : Nat × Nat × Int × Nat × Int × Int × Bool × (List CV) × (List CV) × (List CV) → Option X) (x0 : Nat) (x1 : Int) (x2 : Nat) (x3 : Int) (x4 : Int) (x5 : Bool) (x6 : List CV) (x7 : List CV) : Option X := f14_A (fun X => @f26 X k) k X K x0 x1 x2 x3 x4 x5 x6 x7
theorem f14_ok (k : Nat) : AnsOk Try.prog 14 (f14_cOf (fun X => @f14 X k)) := f14_okA (fun X => @f26 X k) (f26_ok k) k
abbrev f7_R : Type 1 := (X : Type) → (Bool → Option X) → Option X
def f7_out (u : Bool) : Out := ⟨(.v (CV.bool u)), []⟩
def f7_cOf (R : f7_R) : FnC := fun X xs ns K => match xs, ns with
  | [], [] => R X (fun u => K (f7_out u)) 
  | _, _ => none
def f7_plan : Nat → Option (List Nat × List Wk)
  | 0 => some ([], [])
  | 1 => some ([], [])
  | 2 => some ([1], [])
  | 3 => some ([], [])
  | 4 => some ([1], [])
  | 5 => some ([1, 2, 3], [])
  | 6 => some ([1, 2, 3], [])
  | 7 => some ([1, 2, 3, 4], [])
  | 8 => some ([1, 2, 3, 4, 6], [])
  | 9 => some ([1, 2, 3, 4, 6, 7], [])
  | 10 => some ([1, 2, 3, 4, 6, 7], [])
  | 11 => some ([1, 2, 3, 4, 6, 7, 8, 9], [])
  | 12 => some ([1, 2, 3, 4, 6, 7, 8, 9, 10], [])
  | _ => none
def f7_C (R_f8 : f8_R) (R_f16 : f16_R) (R_f9 : f9_R) (R_f17 : f17_R) (R_f22 : f22_R) (R_f18 : f18_R) (R_f12 : f12_R) (R_f23 : f23_R) (R_f19 : f19_R) (R_f10 : f10_R) (R_f11 : f11_R) (R_f14 : f14_R) : Fns := (orC 8 (f8_cOf R_f8) (orC 9 (f9_cOf R_f9) (orC 10 (f10_cOf R_f10) (orC 11 (f11_cOf R_f11) (orC 12 (f12_cOf R_f12) (orC 14 (f14_cOf R_f14) (orC 16 (f16_cOf R_f16) (orC 17 (f17_cOf R_f17) (orC 18 (f18_cOf R_f18) (orC 19 (f19_cOf R_f19) (orC 22 (f22_cOf R_f22) (orC 23 (f23_cOf R_f23) noC))))))))))))
theorem f7_Cok (R_f8 : f8_R) (R_f16 : f16_R) (R_f9 : f9_R) (R_f17 : f17_R) (R_f22 : f22_R) (R_f18 : f18_R) (R_f12 : f12_R) (R_f23 : f23_R) (R_f19 : f19_R) (R_f10 : f10_R) (R_f11 : f11_R) (R_f14 : f14_R) (hR_f8 : AnsOk Try.prog 8 (f8_cOf R_f8)) (hR_f16 : AnsOk Try.prog 16 (f16_cOf R_f16)) (hR_f9 : AnsOk Try.prog 9 (f9_cOf R_f9)) (hR_f17 : AnsOk Try.prog 17 (f17_cOf R_f17)) (hR_f22 : AnsOk Try.prog 22 (f22_cOf R_f22)) (hR_f18 : AnsOk Try.prog 18 (f18_cOf R_f18)) (hR_f12 : AnsOk Try.prog 12 (f12_cOf R_f12)) (hR_f23 : AnsOk Try.prog 23 (f23_cOf R_f23)) (hR_f19 : AnsOk Try.prog 19 (f19_cOf R_f19)) (hR_f10 : AnsOk Try.prog 10 (f10_cOf R_f10)) (hR_f11 : AnsOk Try.prog 11 (f11_cOf R_f11)) (hR_f14 : AnsOk Try.prog 14 (f14_cOf R_f14)) : CsOk Try.prog (f7_C R_f8 R_f16 R_f9 R_f17 R_f22 R_f18 R_f12 R_f23 R_f19 R_f10 R_f11 R_f14) := (orC_ok hR_f8 (orC_ok hR_f9 (orC_ok hR_f10 (orC_ok hR_f11 (orC_ok hR_f12 (orC_ok hR_f14 (orC_ok hR_f16 (orC_ok hR_f17 (orC_ok hR_f18 (orC_ok hR_f19 (orC_ok hR_f22 (orC_ok hR_f23 noC_ok))))))))))))
def f7_cx (R_f8 : f8_R) (R_f16 : f16_R) (R_f9 : f9_R) (R_f17 : f17_R) (R_f22 : f22_R) (R_f18 : f18_R) (R_f12 : f12_R) (R_f23 : f23_R) (R_f19 : f19_R) (R_f10 : f10_R) (R_f11 : f11_R) (R_f14 : f14_R) (hR_f8 : AnsOk Try.prog 8 (f8_cOf R_f8)) (hR_f16 : AnsOk Try.prog 16 (f16_cOf R_f16)) (hR_f9 : AnsOk Try.prog 9 (f9_cOf R_f9)) (hR_f17 : AnsOk Try.prog 17 (f17_cOf R_f17)) (hR_f22 : AnsOk Try.prog 22 (f22_cOf R_f22)) (hR_f18 : AnsOk Try.prog 18 (f18_cOf R_f18)) (hR_f12 : AnsOk Try.prog 12 (f12_cOf R_f12)) (hR_f23 : AnsOk Try.prog 23 (f23_cOf R_f23)) (hR_f19 : AnsOk Try.prog 19 (f19_cOf R_f19)) (hR_f10 : AnsOk Try.prog 10 (f10_cOf R_f10)) (hR_f11 : AnsOk Try.prog 11 (f11_cOf R_f11)) (hR_f14 : AnsOk Try.prog 14 (f14_cOf R_f14)) : Cx := mkCx (tabOf rows) (f7_C R_f8 R_f16 R_f9 R_f17 R_f22 R_f18 R_f12 R_f23 R_f19 R_f10 R_f11 R_f14) md (cmpIn cmps) f7_plan (f7_Cok R_f8 R_f16 R_f9 R_f17 R_f22 R_f18 R_f12 R_f23 R_f19 R_f10 R_f11 R_f14 hR_f8 hR_f16 hR_f9 hR_f17 hR_f22 hR_f18 hR_f12 hR_f23 hR_f19 hR_f10 hR_f11 hR_f14)
def f7_T {X : Type} (R_f8 : f8_R) (R_f16 : f16_R) (R_f9 : f9_R) (R_f17 : f17_R) (R_f22 : f22_R) (R_f18 : f18_R) (R_f12 : f12_R) (R_f23 : f23_R) (R_f19 : f19_R) (R_f10 : f10_R) (R_f11 : f11_R) (R_f14 : f14_R) (k : Nat) (K : Bool → Option X)   : Option X :=
R_f8 _ (fun u1 =>
R_f16 _ (fun u5 =>
(bif (u5.1 != 0) then
K (false)
else
R_f16 _ (fun u6 =>
(bif (u6.1 != 0) then
K (false)
else
R_f16 _ (fun u7 =>
(bif (u7.1 != 31) then
K (false)
else
R_f9 _ (fun u8 =>
R_f17 _ (fun u9 =>
R_f16 _ (fun u10 =>
R_f9 _ (fun u11 =>
R_f22 _ (fun u12 =>
R_f18 _ (fun u13 =>
R_f9 _ (fun u14 =>
R_f12 _ (fun u15 =>
(bif (u8.2.1 == 0) then
grd (decide (0 < (Nat.cast (u8.1) : Int))) <|
Option.bind (u8.2.2.2.2.2.2.2.2.2.2)[0]? fun e16 =>
grd (CV.isI .u8 e16) <|
(bif ((CV.toI e16) == 48) then
grd (decide (1 < (Nat.cast (u8.1) : Int))) <|
Option.bind (u8.2.2.2.2.2.2.2.2.2.2)[1]? fun e17 =>
grd (CV.isI .u8 e17) <|
(bif ((CV.toI e17) == 255) then
(bif (u10.1 == 30) then
(bif (u11.2.1 == 30) then
(bif u12.1 then
(bif (u14.2.1 == 0) then
grd (decide (1 < (Nat.cast (u14.1) : Int))) <|
Option.bind (u14.2.2.2.2.2.2.2.2.2.2)[1]? fun e18 =>
grd (CV.isI .u8 e18) <|
(bif ((CV.toI e18) == 2) then
grd (decide (2 < (Nat.cast (u14.1) : Int))) <|
Option.bind (u14.2.2.2.2.2.2.2.2.2.2)[2]? fun e19 =>
grd (CV.isI .u8 e19) <|
(bif ((CV.toI e19) == 255) then
(bif (u15.1 == 0) then
R_f23 _ (fun u20 =>
(bif (u20.1 == 1) then
R_f19 _ (fun u21 =>
(bif (u21.1 == 20) then
R_f10 _ (fun u22 =>
(bif (u22.1 == 32) then
R_f11 _ (fun u23 =>
(bif (u23.1 == 16) then
R_f14 _ (fun u24 =>
grd (decide (16 < (Nat.cast (u24.1) : Int))) <|
Option.bind (u24.2.2.2.2.2.2.2.2.2)[16]? fun e25 =>
grd (CV.isI .u8 e25) <|
K (((CV.toI e25) == 255))) (u23.2.1) (u23.2.2.1) (u23.2.2.2.1) (u23.2.2.2.2.1) (u23.2.2.2.2.2.1) (u23.2.2.2.2.2.2.1) (u23.2.2.2.2.2.2.2.1) (u23.2.2.2.2.2.2.2.2)
else
K (false))) (u22.2.1) (u22.2.2.1) (u22.2.2.2.1) (u22.2.2.2.2.1) (u22.2.2.2.2.2.1) (u22.2.2.2.2.2.2.1) (u22.2.2.2.2.2.2.2.1) (u22.2.2.2.2.2.2.2.2)
else
K (false))) (u21.2.1) (u21.2.2.1) (u21.2.2.2.1) (u21.2.2.2.2.1) (u21.2.2.2.2.2.1) (u21.2.2.2.2.2.2.1) (u21.2.2.2.2.2.2.2.1) (u21.2.2.2.2.2.2.2.2)
else
K (false))) (u20.2.1) (u20.2.2.1) (u20.2.2.2.1) (u20.2.2.2.2.1) (u20.2.2.2.2.2.1) (u20.2.2.2.2.2.2.1) (u20.2.2.2.2.2.2.2.1) (u20.2.2.2.2.2.2.2.2)
else
K (false))) (1) (u15.2.1) (u15.2.2.1) (u15.2.2.2.1) (u15.2.2.2.2.1) (u15.2.2.2.2.2.1) (u15.2.2.2.2.2.2.1) (u15.2.2.2.2.2.2.2.1) (u15.2.2.2.2.2.2.2.2)
else
K (false))
else
K (false))
else
K (false))
else
K (false))
else
K (false))
else
K (false))
else
K (false))
else
K (false))
else
K (false))
else
K (false))) (1) (u14.2.2.1) (u14.2.2.2.1) (u14.2.2.2.2.1) (u14.2.2.2.2.2.1) (u14.2.2.2.2.2.2.1) (u14.2.2.2.2.2.2.2.1) (u14.2.2.2.2.2.2.2.2.1) (u14.2.2.2.2.2.2.2.2.2.1)) (16) (3) (u13.1) (u13.2.1) (u13.2.2.1) (u13.2.2.2.1) ((-1)) (false) (u13.2.2.2.2.1) (u13.2.2.2.2.2)) (u12.2.1) (u12.2.2.1) (u12.2.2.2.1) (u12.2.2.2.2.1) (u12.2.2.2.2.2.1) (u12.2.2.2.2.2.2.1) (u12.2.2.2.2.2.2.2.1) (u12.2.2.2.2.2.2.2.2)) (u11.2.2.1) (u11.2.2.2.1) (u11.2.2.2.2.1) (u11.2.2.2.2.2.1) (u11.2.2.2.2.2.2.1) (u11.2.2.2.2.2.2.2.1) (u11.2.2.2.2.2.2.2.2.1) (u11.2.2.2.2.2.2.2.2.2.1)) (0) (1) (u10.2.1) (u10.2.2.1) (u10.2.2.2.1) (u10.2.2.2.2.1) (u10.2.2.2.2.2.1) (u10.2.2.2.2.2.2.1) (u10.2.2.2.2.2.2.2.1) (u10.2.2.2.2.2.2.2.2)) (16) ((List.take 3 (List.drop 0 [(CV.int .u8 1), (CV.int .u8 2), (CV.int .u8 3)]))) (u9.1) (u9.2.1) (u9.2.2.1) (u9.2.2.2.1) (u9.2.2.2.2.1) (u9.2.2.2.2.2.1) (u9.2.2.2.2.2.2.1) (u9.2.2.2.2.2.2.2)) (2) (u8.2.2.1) (u8.2.2.2.1) (u8.2.2.2.2.1) (u8.2.2.2.2.2.1) (u8.2.2.2.2.2.2.1) (u8.2.2.2.2.2.2.2.1) (u8.2.2.2.2.2.2.2.2.1) (u8.2.2.2.2.2.2.2.2.2.1)) (0) (2) (u7.2.1) (u7.2.2.1) (u7.2.2.2.1) (u7.2.2.2.2.1) (u7.2.2.2.2.2.1) (u7.2.2.2.2.2.2.1) (u7.2.2.2.2.2.2.2.1) (u7.2.2.2.2.2.2.2.2))) (0) ((List.take 1 (List.drop 0 [(CV.int .u8 112)]))) (u6.2.1) (u6.2.2.1) (u6.2.2.2.1) (u6.2.2.2.2.1) (u6.2.2.2.2.2.1) (u6.2.2.2.2.2.2.1) (u6.2.2.2.2.2.2.2.1) (u6.2.2.2.2.2.2.2.2))) (0) ((List.take 1 (List.drop 0 [(CV.int .u8 48)]))) (u5.2.1) (u5.2.2.1) (u5.2.2.2.1) (u5.2.2.2.2.1) (u5.2.2.2.2.2.1) (u5.2.2.2.2.2.2.1) (u5.2.2.2.2.2.2.2.1) (u5.2.2.2.2.2.2.2.2))) (0) ((List.take 1 (List.drop 0 [(CV.int .u8 240)]))) (u1.1) (u1.2.1) (u1.2.2.1) (0) ((-1)) (false) (u1.2.2.2.1) (u1.2.2.2.2)) (2) (16)
/-- "outpost/outpostlaw03.alive" -/
def f7_A (R_f8 : f8_R) (R_f16 : f16_R) (R_f9 : f9_R) (R_f17 : f17_R) (R_f22 : f22_R) (R_f18 : f18_R) (R_f12 : f12_R) (R_f23 : f23_R) (R_f19 : f19_R) (R_f10 : f10_R) (R_f11 : f11_R) (R_f14 : f14_R) (k : Nat) : f7_R := fun X K  => f7_T R_f8 R_f16 R_f9 R_f17 R_f22 R_f18 R_f12 R_f23 R_f19 R_f10 R_f11 R_f14 k K  
set_option maxRecDepth 100000 in
theorem f7_ev' {X : Type} (R_f8 : f8_R) (R_f16 : f16_R) (R_f9 : f9_R) (R_f17 : f17_R) (R_f22 : f22_R) (R_f18 : f18_R) (R_f12 : f12_R) (R_f23 : f23_R) (R_f19 : f19_R) (R_f10 : f10_R) (R_f11 : f11_R) (R_f14 : f14_R) (hR_f8 : AnsOk Try.prog 8 (f8_cOf R_f8)) (hR_f16 : AnsOk Try.prog 16 (f16_cOf R_f16)) (hR_f9 : AnsOk Try.prog 9 (f9_cOf R_f9)) (hR_f17 : AnsOk Try.prog 17 (f17_cOf R_f17)) (hR_f22 : AnsOk Try.prog 22 (f22_cOf R_f22)) (hR_f18 : AnsOk Try.prog 18 (f18_cOf R_f18)) (hR_f12 : AnsOk Try.prog 12 (f12_cOf R_f12)) (hR_f23 : AnsOk Try.prog 23 (f23_cOf R_f23)) (hR_f19 : AnsOk Try.prog 19 (f19_cOf R_f19)) (hR_f10 : AnsOk Try.prog 10 (f10_cOf R_f10)) (hR_f11 : AnsOk Try.prog 11 (f11_cOf R_f11)) (hR_f14 : AnsOk Try.prog 14 (f14_cOf R_f14)) (k : Nat) (K : Out → Option X)  : evFn (f7_cx R_f8 R_f16 R_f9 R_f17 R_f22 R_f18 R_f12 R_f23 R_f19 R_f10 R_f11 R_f14 hR_f8 hR_f16 hR_f9 hR_f17 hR_f22 hR_f18 hR_f12 hR_f23 hR_f19 hR_f10 hR_f11 hR_f14) [] k Try.f7.ntmps Try.f7.results.toList (Try.f7.body.getD .skip) [] [] K = f7_T R_f8 R_f16 R_f9 R_f17 R_f22 R_f18 R_f12 R_f23 R_f19 R_f10 R_f11 R_f14 k (fun u => K (f7_out u))  := by kernel_rfl
theorem f7_ev {X : Type} (R_f8 : f8_R) (R_f16 : f16_R) (R_f9 : f9_R) (R_f17 : f17_R) (R_f22 : f22_R) (R_f18 : f18_R) (R_f12 : f12_R) (R_f23 : f23_R) (R_f19 : f19_R) (R_f10 : f10_R) (R_f11 : f11_R) (R_f14 : f14_R) (hR_f8 : AnsOk Try.prog 8 (f8_cOf R_f8)) (hR_f16 : AnsOk Try.prog 16 (f16_cOf R_f16)) (hR_f9 : AnsOk Try.prog 9 (f9_cOf R_f9)) (hR_f17 : AnsOk Try.prog 17 (f17_cOf R_f17)) (hR_f22 : AnsOk Try.prog 22 (f22_cOf R_f22)) (hR_f18 : AnsOk Try.prog 18 (f18_cOf R_f18)) (hR_f12 : AnsOk Try.prog 12 (f12_cOf R_f12)) (hR_f23 : AnsOk Try.prog 23 (f23_cOf R_f23)) (hR_f19 : AnsOk Try.prog 19 (f19_cOf R_f19)) (hR_f10 : AnsOk Try.prog 10 (f10_cOf R_f10)) (hR_f11 : AnsOk Try.prog 11 (f11_cOf R_f11)) (hR_f14 : AnsOk Try.prog 14 (f14_cOf R_f14)) (k : Nat) (K : Out → Option X)  : evFn (f7_cx R_f8 R_f16 R_f9 R_f17 R_f22 R_f18 R_f12 R_f23 R_f19 R_f10 R_f11 R_f14 hR_f8 hR_f16 hR_f9 hR_f17 hR_f22 hR_f18 hR_f12 hR_f23 hR_f19 hR_f10 hR_f11 hR_f14) [] k Try.f7.ntmps Try.f7.results.toList (Try.f7.body.getD .skip) [] [] K = f7_A R_f8 R_f16 R_f9 R_f17 R_f22 R_f18 R_f12 R_f23 R_f19 R_f10 R_f11 R_f14 k X (fun u => K (f7_out u))  := (f7_ev' R_f8 R_f16 R_f9 R_f17 R_f22 R_f18 R_f12 R_f23 R_f19 R_f10 R_f11 R_f14 hR_f8 hR_f16 hR_f9 hR_f17 hR_f22 hR_f18 hR_f12 hR_f23 hR_f19 hR_f10 hR_f11 hR_f14 k K ).trans rfl
theorem f7_okA (R_f8 : f8_R) (R_f16 : f16_R) (R_f9 : f9_R) (R_f17 : f17_R) (R_f22 : f22_R) (R_f18 : f18_R) (R_f12 : f12_R) (R_f23 : f23_R) (R_f19 : f19_R) (R_f10 : f10_R) (R_f11 : f11_R) (R_f14 : f14_R) (hR_f8 : AnsOk Try.prog 8 (f8_cOf R_f8)) (hR_f16 : AnsOk Try.prog 16 (f16_cOf R_f16)) (hR_f9 : AnsOk Try.prog 9 (f9_cOf R_f9)) (hR_f17 : AnsOk Try.prog 17 (f17_cOf R_f17)) (hR_f22 : AnsOk Try.prog 22 (f22_cOf R_f22)) (hR_f18 : AnsOk Try.prog 18 (f18_cOf R_f18)) (hR_f12 : AnsOk Try.prog 12 (f12_cOf R_f12)) (hR_f23 : AnsOk Try.prog 23 (f23_cOf R_f23)) (hR_f19 : AnsOk Try.prog 19 (f19_cOf R_f19)) (hR_f10 : AnsOk Try.prog 10 (f10_cOf R_f10)) (hR_f11 : AnsOk Try.prog 11 (f11_cOf R_f11)) (hR_f14 : AnsOk Try.prog 14 (f14_cOf R_f14)) (k : Nat) : AnsOk Try.prog 7 (f7_cOf (f7_A R_f8 R_f16 R_f9 R_f17 R_f22 R_f18 R_f12 R_f23 R_f19 R_f10 R_f11 R_f14 k)) := by
  intro X xs ns K x h
  unfold f7_cOf at h ⊢
  split at h
  · exact ans_main S (f7_Cok R_f8 R_f16 R_f9 R_f17 R_f22 R_f18 R_f12 R_f23 R_f19 R_f10 R_f11 R_f14 hR_f8 hR_f16 hR_f9 hR_f17 hR_f22 hR_f18 hR_f12 hR_f23 hR_f19 hR_f10 hR_f11 hR_f14) Try.func7 (ent_of Try.func7 (by kernel_rfl) rfl) rfl (fun X K => f7_ev R_f8 R_f16 R_f9 R_f17 R_f22 R_f18 R_f12 R_f23 R_f19 R_f10 R_f11 R_f14 hR_f8 hR_f16 hR_f9 hR_f17 hR_f22 hR_f18 hR_f12 hR_f23 hR_f19 hR_f10 hR_f11 hR_f14 k K ) h
  · cases h
/-- "outpost/outpostlaw03.alive" -/
def f7 {X : Type} (k : Nat) (K : Bool → Option X)  : Option X := f7_A (fun X => @f8 X k) (fun X => @f16 X k) (fun X => @f9 X k) (fun X => @f17 X k) (fun X => @f22 X k) (fun X => @f18 X k) (fun X => @f12 X k) (fun X => @f23 X k) (fun X => @f19 X k) (fun X => @f10 X k) (fun X => @f11 X k) (fun X => @f14 X k) k X K 
theorem f7_ok (k : Nat) : AnsOk Try.prog 7 (f7_cOf (fun X => @f7 X k)) := f7_okA (fun X => @f8 X k) (fun X => @f16 X k) (fun X => @f9 X k) (fun X => @f17 X k) (fun X => @f22 X k) (fun X => @f18 X k) (fun X => @f12 X k) (fun X => @f23 X k) (fun X => @f19 X k) (fun X => @f10 X k) (fun X => @f11 X k) (fun X => @f14 X k) (f8_ok k) (f16_ok k) (f9_ok k) (f17_ok k) (f22_ok k) (f18_ok k) (f12_ok k) (f23_ok k) (f19_ok k) (f10_ok k) (f11_ok k) (f14_ok k) k
abbrev f3_R : Type 1 := (X : Type) → (Bool → Option X) → Int → Int → Option X
def f3_out (u : Bool) : Out := ⟨(.v (CV.bool u)), []⟩
def f3_cOf (R : f3_R) : FnC := fun X xs ns K => match xs, ns with
  | [(.v (CV.int .i64 x0)), (.v (CV.int .i64 x1))], [] => R X (fun u => K (f3_out u)) x0 x1
  | _, _ => none
def f3_plan : Nat → Option (List Nat × List Wk)
  | 0 => some ([0, 1], [])
  | 1 => some ([0, 1], [])
  | 2 => some ([], [])
  | 3 => some ([0, 1], [])
  | 4 => some ([0, 1, 5], [])
  | 5 => some ([1, 5, 6], [])
  | 6 => some ([5, 6, 7], [])
  | 7 => some ([5, 6, 7, 9], [])
  | 8 => some ([5, 6, 7, 9, 10, 11], [])
  | _ => none
def f3_C (R_f7 : f7_R) (R_f8 : f8_R) (R_f9 : f9_R) (R_f10 : f10_R) (R_f11 : f11_R) (R_f12 : f12_R) : Fns := (orC 7 (f7_cOf R_f7) (orC 8 (f8_cOf R_f8) (orC 9 (f9_cOf R_f9) (orC 10 (f10_cOf R_f10) (orC 11 (f11_cOf R_f11) (orC 12 (f12_cOf R_f12) noC))))))
theorem f3_Cok (R_f7 : f7_R) (R_f8 : f8_R) (R_f9 : f9_R) (R_f10 : f10_R) (R_f11 : f11_R) (R_f12 : f12_R) (hR_f7 : AnsOk Try.prog 7 (f7_cOf R_f7)) (hR_f8 : AnsOk Try.prog 8 (f8_cOf R_f8)) (hR_f9 : AnsOk Try.prog 9 (f9_cOf R_f9)) (hR_f10 : AnsOk Try.prog 10 (f10_cOf R_f10)) (hR_f11 : AnsOk Try.prog 11 (f11_cOf R_f11)) (hR_f12 : AnsOk Try.prog 12 (f12_cOf R_f12)) : CsOk Try.prog (f3_C R_f7 R_f8 R_f9 R_f10 R_f11 R_f12) := (orC_ok hR_f7 (orC_ok hR_f8 (orC_ok hR_f9 (orC_ok hR_f10 (orC_ok hR_f11 (orC_ok hR_f12 noC_ok))))))
def f3_cx (R_f7 : f7_R) (R_f8 : f8_R) (R_f9 : f9_R) (R_f10 : f10_R) (R_f11 : f11_R) (R_f12 : f12_R) (hR_f7 : AnsOk Try.prog 7 (f7_cOf R_f7)) (hR_f8 : AnsOk Try.prog 8 (f8_cOf R_f8)) (hR_f9 : AnsOk Try.prog 9 (f9_cOf R_f9)) (hR_f10 : AnsOk Try.prog 10 (f10_cOf R_f10)) (hR_f11 : AnsOk Try.prog 11 (f11_cOf R_f11)) (hR_f12 : AnsOk Try.prog 12 (f12_cOf R_f12)) : Cx := mkCx (tabOf rows) (f3_C R_f7 R_f8 R_f9 R_f10 R_f11 R_f12) md (cmpIn cmps) f3_plan (f3_Cok R_f7 R_f8 R_f9 R_f10 R_f11 R_f12 hR_f7 hR_f8 hR_f9 hR_f10 hR_f11 hR_f12)
def f3_T {X : Type} (R_f7 : f7_R) (R_f8 : f8_R) (R_f9 : f9_R) (R_f10 : f10_R) (R_f11 : f11_R) (R_f12 : f12_R) (k : Nat) (K : Bool → Option X)  (x0 : Int) (x1 : Int) : Option X :=
R_f7 _ (fun u2 =>
(bif (!u2) then
K (false)
else
R_f8 _ (fun u3 =>
R_f9 _ (fun u4 =>
R_f9 _ (fun u5 =>
R_f10 _ (fun u6 =>
(bif (u6.1 == (IntKind.wrap .i64 ((if 64 < (if 1 > x0 then 1 else x0) then 64 else (if 1 > x0 then 1 else x0)) * (if 4096 < (if 16 > x1 then 16 else x1) then 4096 else (if 16 > x1 then 16 else x1))))) then
R_f11 _ (fun u7 =>
(bif (u7.1 == (if 4096 < (if 16 > x1 then 16 else x1) then 4096 else (if 16 > x1 then 16 else x1))) then
(bif (u4.2.1 == 1) then
(bif (u5.2.1 == 0) then
grd (decide (0 < (Nat.cast (u5.1) : Int))) <|
Option.bind (u5.2.2.2.2.2.2.2.2.2.2)[0]? fun e8 =>
grd (CV.isI .u8 e8) <|
(bif ((CV.toI e8) == 255) then
R_f12 _ (fun u9 =>
(bif (u9.1 == 1) then
R_f12 _ (fun u10 =>
K ((u10.1 == 0))) ((IntKind.wrap .i64 ((if 64 < (if 1 > x0 then 1 else x0) then 64 else (if 1 > x0 then 1 else x0)) - 1))) (u9.2.1) (u9.2.2.1) (u9.2.2.2.1) (u9.2.2.2.2.1) (u9.2.2.2.2.2.1) (u9.2.2.2.2.2.2.1) (u9.2.2.2.2.2.2.2.1) (u9.2.2.2.2.2.2.2.2)
else
K (false))) ((if 64 < (if 1 > x0 then 1 else x0) then 64 else (if 1 > x0 then 1 else x0))) (u7.2.1) (u7.2.2.1) (u7.2.2.2.1) (u7.2.2.2.2.1) (u7.2.2.2.2.2.1) (u7.2.2.2.2.2.2.1) (u7.2.2.2.2.2.2.2.1) (u7.2.2.2.2.2.2.2.2)
else
K (false))
else
K (false))
else
K (false))
else
K (false))) (u6.2.1) (u6.2.2.1) (u6.2.2.2.1) (u6.2.2.2.2.1) (u6.2.2.2.2.2.1) (u6.2.2.2.2.2.2.1) (u6.2.2.2.2.2.2.2.1) (u6.2.2.2.2.2.2.2.2)
else
K (false))) (u5.2.2.1) (u5.2.2.2.1) (u5.2.2.2.2.1) (u5.2.2.2.2.2.1) (u5.2.2.2.2.2.2.1) (u5.2.2.2.2.2.2.2.1) (u5.2.2.2.2.2.2.2.2.1) (u5.2.2.2.2.2.2.2.2.2.1)) ((IntKind.wrap .i64 ((IntKind.wrap .i64 ((if 64 < (if 1 > x0 then 1 else x0) then 64 else (if 1 > x0 then 1 else x0)) * (if 4096 < (if 16 > x1 then 16 else x1) then 4096 else (if 16 > x1 then 16 else x1)))) - 1))) (1) (u4.2.2.1) (u4.2.2.2.1) (u4.2.2.2.2.1) (u4.2.2.2.2.2.1) (u4.2.2.2.2.2.2.1) (u4.2.2.2.2.2.2.2.1) (u4.2.2.2.2.2.2.2.2.1) (u4.2.2.2.2.2.2.2.2.2.1)) ((IntKind.wrap .i64 ((if 64 < (if 1 > x0 then 1 else x0) then 64 else (if 1 > x0 then 1 else x0)) * (if 4096 < (if 16 > x1 then 16 else x1) then 4096 else (if 16 > x1 then 16 else x1))))) (1) (u3.1) (u3.2.1) (u3.2.2.1) (0) ((-1)) (false) (u3.2.2.2.1) (u3.2.2.2.2)) (x0) (x1))) 
/-- "outpost/outpostlaw03.FlashGreat" -/
def f3_A (R_f7 : f7_R) (R_f8 : f8_R) (R_f9 : f9_R) (R_f10 : f10_R) (R_f11 : f11_R) (R_f12 : f12_R) (k : Nat) : f3_R := fun X K x0 x1 => f3_T R_f7 R_f8 R_f9 R_f10 R_f11 R_f12 k K  x0 x1
set_option maxRecDepth 100000 in
theorem f3_ev' {X : Type} (R_f7 : f7_R) (R_f8 : f8_R) (R_f9 : f9_R) (R_f10 : f10_R) (R_f11 : f11_R) (R_f12 : f12_R) (hR_f7 : AnsOk Try.prog 7 (f7_cOf R_f7)) (hR_f8 : AnsOk Try.prog 8 (f8_cOf R_f8)) (hR_f9 : AnsOk Try.prog 9 (f9_cOf R_f9)) (hR_f10 : AnsOk Try.prog 10 (f10_cOf R_f10)) (hR_f11 : AnsOk Try.prog 11 (f11_cOf R_f11)) (hR_f12 : AnsOk Try.prog 12 (f12_cOf R_f12)) (k : Nat) (K : Out → Option X) (x0 : Int) (x1 : Int) : evFn (f3_cx R_f7 R_f8 R_f9 R_f10 R_f11 R_f12 hR_f7 hR_f8 hR_f9 hR_f10 hR_f11 hR_f12) [] k Try.f3.ntmps Try.f3.results.toList (Try.f3.body.getD .skip) [(.v (CV.int .i64 x0)), (.v (CV.int .i64 x1))] [] K = f3_T R_f7 R_f8 R_f9 R_f10 R_f11 R_f12 k (fun u => K (f3_out u)) x0 x1 := by kernel_rfl
theorem f3_ev {X : Type} (R_f7 : f7_R) (R_f8 : f8_R) (R_f9 : f9_R) (R_f10 : f10_R) (R_f11 : f11_R) (R_f12 : f12_R) (hR_f7 : AnsOk Try.prog 7 (f7_cOf R_f7)) (hR_f8 : AnsOk Try.prog 8 (f8_cOf R_f8)) (hR_f9 : AnsOk Try.prog 9 (f9_cOf R_f9)) (hR_f10 : AnsOk Try.prog 10 (f10_cOf R_f10)) (hR_f11 : AnsOk Try.prog 11 (f11_cOf R_f11)) (hR_f12 : AnsOk Try.prog 12 (f12_cOf R_f12)) (k : Nat) (K : Out → Option X) (x0 : Int) (x1 : Int) : evFn (f3_cx R_f7 R_f8 R_f9 R_f10 R_f11 R_f12 hR_f7 hR_f8 hR_f9 hR_f10 hR_f11 hR_f12) [] k Try.f3.ntmps Try.f3.results.toList (Try.f3.body.getD .skip) [(.v (CV.int .i64 x0)), (.v (CV.int .i64 x1))] [] K = f3_A R_f7 R_f8 R_f9 R_f10 R_f11 R_f12 k X (fun u => K (f3_out u)) x0 x1 := (f3_ev' R_f7 R_f8 R_f9 R_f10 R_f11 R_f12 hR_f7 hR_f8 hR_f9 hR_f10 hR_f11 hR_f12 k K x0 x1).trans rfl
theorem f3_okA (R_f7 : f7_R) (R_f8 : f8_R) (R_f9 : f9_R) (R_f10 : f10_R) (R_f11 : f11_R) (R_f12 : f12_R) (hR_f7 : AnsOk Try.prog 7 (f7_cOf R_f7)) (hR_f8 : AnsOk Try.prog 8 (f8_cOf R_f8)) (hR_f9 : AnsOk Try.prog 9 (f9_cOf R_f9)) (hR_f10 : AnsOk Try.prog 10 (f10_cOf R_f10)) (hR_f11 : AnsOk Try.prog 11 (f11_cOf R_f11)) (hR_f12 : AnsOk Try.prog 12 (f12_cOf R_f12)) (k : Nat) : AnsOk Try.prog 3 (f3_cOf (f3_A R_f7 R_f8 R_f9 R_f10 R_f11 R_f12 k)) := by
  intro X xs ns K x h
  unfold f3_cOf at h ⊢
  split at h
  · exact ans_main S (f3_Cok R_f7 R_f8 R_f9 R_f10 R_f11 R_f12 hR_f7 hR_f8 hR_f9 hR_f10 hR_f11 hR_f12) Try.func3 (ent_of Try.func3 (by kernel_rfl) rfl) rfl (fun X K => f3_ev R_f7 R_f8 R_f9 R_f10 R_f11 R_f12 hR_f7 hR_f8 hR_f9 hR_f10 hR_f11 hR_f12 k K _ _) h
  · cases h
/-- "outpost/outpostlaw03.FlashGreat" -/
def f3 {X : Type} (k : Nat) (K : Bool → Option X) (x0 : Int) (x1 : Int) : Option X := f3_A (fun X => @f7 X k) (fun X => @f8 X k) (fun X => @f9 X k) (fun X => @f10 X k) (fun X => @f11 X k) (fun X => @f12 X k) k X K x0 x1
theorem f3_ok (k : Nat) : AnsOk Try.prog 3 (f3_cOf (fun X => @f3 X k)) := f3_okA (fun X => @f7 X k) (fun X => @f8 X k) (fun X => @f9 X k) (fun X => @f10 X k) (fun X => @f11 X k) (fun X => @f12 X k) (f7_ok k) (f8_ok k) (f9_ok k) (f10_ok k) (f11_ok k) (f12_ok k) k
abbrev f13_R : Type 1 := (X : Type) → (Bool → Option X) → (List CV) → Option X
def f13_out (u : Bool) : Out := ⟨(.v (CV.bool u)), []⟩
def f13_cOf (R : f13_R) : FnC := fun X xs ns K => match xs, ns with
  | [(.sl false (some 4) x0)], [] => R X (fun u => K (f13_out u)) x0
  | _, _ => none
def f13_plan : Nat → Option (List Nat × List Wk)
  | 0 => some ([0], [])
  | 1 => some ([0], [])
  | 2 => some ([], [])
  | 3 => some ([0], [])
  | 4 => some ([0, 3], [])
  | 5 => some ([3, 9, 10, 11], [])
  | 6 => some ([3, 9, 10, 11], [])
  | 7 => some ([3, 5, 9, 10, 11], [])
  | 8 => some ([], [])
  | 9 => some ([3, 5, 9, 10, 11], [])
  | 10 => some ([3, 9, 10, 11], [])
  | 11 => some ([], [])
  | _ => none
def f13_C : Fns := noC
theorem f13_Cok : CsOk Try.prog (f13_C) := noC_ok
def f13_cx : Cx := mkCx (tabOf rows) (f13_C) md (cmpIn cmps) f13_plan (f13_Cok)
def f13_S1 (v : Int × (List CV) × Int × Int) : St := ⟨[.undef, .undef, .undef, (.v (CV.int .i64 v.1)), .undef, .undef, .undef, .undef, .undef, (.sl false (some 4) v.2.1), (.v (CV.int .i64 v.2.2.1)), (.v (CV.int .i64 v.2.2.2)), .undef, .undef, .undef, .undef, .undef, .undef, .undef, .undef, .undef, .undef, .undef, .undef, .undef, .undef, .undef], []⟩
def f13_T1 {X : Type} (k : Nat) (K : Bool → Option X)   (rec1 : Int × (List CV) × Int × Int → Option X) (v6_0 : Int × (List CV) × Int × Int) : Option X :=
(bif (decide (v6_0.2.2.2 < v6_0.2.2.1)) then
grd (decide (0 ≤ v6_0.2.2.2)) <|
Option.bind (v6_0.2.1)[(Int.toNat v6_0.2.2.2)]? fun e5 =>
grd (CV.isA 4 e5) <|
grd (CV.isI .i64 (CV.cellD 0 e5)) <|
grd (CV.isI .i64 (CV.cellD 1 e5)) <|
grd (CV.isI .i64 (CV.cellD 2 e5)) <|
grd (CV.isL none (CV.cellD 3 e5)) <|
(bif (decide ((Nat.cast ((List.length (CV.toL (CV.cellD 3 e5)))) : Int) > (IntKind.wrap .i64 (3000 - v6_0.1)))) then
K (false)
else
rec1 ((IntKind.wrap .i64 (v6_0.1 + (Nat.cast ((List.length (CV.toL (CV.cellD 3 e5)))) : Int))), v6_0.2.1, v6_0.2.2.1, (IntKind.wrap .i64 (v6_0.2.2.2 + 1))))
else
K (true))
def f13_L1 {X : Type} (k : Nat) (K : Bool → Option X)  (rec1 : Int × (List CV) × Int × Int → Option X) (v : Int × (List CV) × Int × Int) : Option X := f13_T1 k K   rec1 v
set_option maxRecDepth 100000 in
theorem f13_L1_ev {X : Type} (k : Nat) (K : Out → Option X)  (r1 : St → Option X) (v : Int × (List CV) × Int × Int) : loopB (f13_cx) k [.r, .r, .r, .l, .r, .b] (Try.f13.body.getD .skip) (retK (f13_cx) [] Try.f13.results.toList K) [] r1 (f13_S1 v) = f13_T1 k (fun u => K (f13_out u))   (fun v => r1 (f13_S1 v)) v := by kernel_rfl
theorem f13_L1_it {X : Type} (k : Nat) (K : Out → Option X)  : (fun v => iter (loopB (f13_cx) k [.r, .r, .r, .l, .r, .b] (Try.f13.body.getD .skip) (retK (f13_cx) [] Try.f13.results.toList K) []) k (f13_S1 v)) = iterV (f13_L1 k (fun u => K (f13_out u)) ) k :=
  iter_map (fun r1 v => (f13_L1_ev k K  r1 v).trans rfl) k
def f13_T {X : Type} (k : Nat) (K : Bool → Option X) (loop1 : Int × (List CV) × Int × Int → Option X) (x0 : List CV) : Option X :=
(bif (decide ((Nat.cast ((List.length x0)) : Int) > 30)) then
K (false)
else
loop1 (0, x0, (Nat.cast ((List.length x0)) : Int), 0))
/-- "outpost/outpostlaw03.small" -/
def f13_A (k : Nat) : f13_R := fun X K x0 => f13_T k K (iterV (f13_L1 k K) k) x0
set_option maxRecDepth 100000 in
theorem f13_ev' {X : Type} (k : Nat) (K : Out → Option X) (x0 : List CV) : evFn (f13_cx) [] k Try.f13.ntmps Try.f13.results.toList (Try.f13.body.getD .skip) [(.sl false (some 4) x0)] [] K = f13_T k (fun u => K (f13_out u)) (fun v => iter (loopB (f13_cx) k [.r, .r, .r, .l, .r, .b] (Try.f13.body.getD .skip) (retK (f13_cx) [] Try.f13.results.toList K) []) k (f13_S1 v)) x0 := by kernel_rfl
theorem f13_ev {X : Type} (k : Nat) (K : Out → Option X) (x0 : List CV) : evFn (f13_cx) [] k Try.f13.ntmps Try.f13.results.toList (Try.f13.body.getD .skip) [(.sl false (some 4) x0)] [] K = f13_A k X (fun u => K (f13_out u)) x0 := (f13_ev' k K x0).trans (by rw [f13_L1_it k K]; rfl)
theorem f13_okA (k : Nat) : AnsOk Try.prog 13 (f13_cOf (f13_A k)) := by
  intro X xs ns K x h
  unfold f13_cOf at h ⊢
  split at h
  · exact ans_main S (f13_Cok) Try.func13 (ent_of Try.func13 (by kernel_rfl) rfl) rfl (fun X K => f13_ev k K _) h
  · cases h
/-- "outpost/outpostlaw03.small" -/
def f13 {X : Type} (k : Nat) (K : Bool → Option X) (x0 : List CV) : Option X := f13_A k X K x0
theorem f13_ok (k : Nat) : AnsOk Try.prog 13 (f13_cOf (fun X => @f13 X k)) := f13_okA k
abbrev f15_R : Type 1 := (X : Type) → (Nat × (List CV) → Option X) → (List CV) → Option X
def f15_out (u : Nat × (List CV)) : Out := ⟨(.osl [2000] none 0 u.1), [([2000], (.row false none u.2))]⟩
def f15_cOf (R : f15_R) : FnC := fun X xs ns K => match xs, ns with
  | [(.sl false none x0)], [] => R X (fun u => K (f15_out u)) x0
  | _, _ => none
def f15_plan : Nat → Option (List Nat × List Wk)
  | 0 => some ([0], [])
  | 1 => some ([0], [])
  | 2 => some ([0, 3], [])
  | 3 => some ([0, 3, 4], [])
  | 4 => some ([0, 3, 4], [])
  | 5 => some ([0, 3, 4], [])
  | 6 => some ([3], [])
  | _ => none
def f15_C : Fns := noC
theorem f15_Cok : CsOk Try.prog (f15_C) := noC_ok
def f15_cx : Cx := mkCx (tabOf rows) (f15_C) md (cmpIn cmps) f15_plan (f15_Cok)
def f15_S1 (v : (List CV) × Nat × Int × (List CV)) : St := ⟨[(.sl false none v.1), .undef, .undef, (.osl [3] none 0 v.2.1), (.v (CV.int .i64 v.2.2.1)), .undef, .undef, .undef, .undef, .undef, .undef, .undef, .undef, .undef, .undef, .undef, .undef, .undef, .undef, .undef], [([3], (.row false none v.2.2.2))]⟩
def f15_T1 {X : Type} (k : Nat) (K : Nat × (List CV) → Option X)   (rec1 : (List CV) × Nat × Int × (List CV) → Option X) (v5_0 : (List CV) × Nat × Int × (List CV)) : Option X :=
(bif (decide (v5_0.2.2.1 < (Nat.cast ((List.length v5_0.1)) : Int))) then
grd (decide (0 ≤ v5_0.2.2.1)) <|
Option.bind (v5_0.1)[(Int.toNat v5_0.2.2.1)]? fun e5 =>
grd (CV.isI .u8 e5) <|
grd (decide ((v5_0.2.1 + (List.length (List.take 1 (List.drop 0 [(CV.int .u8 (CV.toI e5))])))) * 1 ≤ 140737488355328)) <|
rec1 (v5_0.1, (v5_0.2.1 + (List.length (List.take 1 (List.drop 0 [(CV.int .u8 (CV.toI e5))])))), (IntKind.wrap .i64 (v5_0.2.2.1 + 1)), ((List.take v5_0.2.1 v5_0.2.2.2) ++ (List.take 1 (List.drop 0 [(CV.int .u8 (CV.toI e5))]))))
else
K (v5_0.2.1, (List.take (0 + v5_0.2.1) v5_0.2.2.2)))
def f15_L1 {X : Type} (k : Nat) (K : Nat × (List CV) → Option X)  (rec1 : (List CV) × Nat × Int × (List CV) → Option X) (v : (List CV) × Nat × Int × (List CV)) : Option X := f15_T1 k K   rec1 v
set_option maxRecDepth 100000 in
theorem f15_L1_ev {X : Type} (k : Nat) (K : Out → Option X)  (r1 : St → Option X) (v : (List CV) × Nat × Int × (List CV)) : loopB (f15_cx) k [.r, .r, .l, .r, .b] (Try.f15.body.getD .skip) (retK (f15_cx) [] Try.f15.results.toList K) [] r1 (f15_S1 v) = f15_T1 k (fun u => K (f15_out u))   (fun v => r1 (f15_S1 v)) v := by kernel_rfl
theorem f15_L1_it {X : Type} (k : Nat) (K : Out → Option X)  : (fun v => iter (loopB (f15_cx) k [.r, .r, .l, .r, .b] (Try.f15.body.getD .skip) (retK (f15_cx) [] Try.f15.results.toList K) []) k (f15_S1 v)) = iterV (f15_L1 k (fun u => K (f15_out u)) ) k :=
  iter_map (fun r1 v => (f15_L1_ev k K  r1 v).trans rfl) k
def f15_T {X : Type} (k : Nat) (K : Nat × (List CV) → Option X) (loop1 : (List CV) × Nat × Int × (List CV) → Option X) (x0 : List CV) : Option X :=
loop1 (x0, 0, 0, [])
/-- "outpost/outpostref01.Copy" -/
def f15_A (k : Nat) : f15_R := fun X K x0 => f15_T k K (iterV (f15_L1 k K) k) x0
set_option maxRecDepth 100000 in
theorem f15_ev' {X : Type} (k : Nat) (K : Out → Option X) (x0 : List CV) : evFn (f15_cx) [] k Try.f15.ntmps Try.f15.results.toList (Try.f15.body.getD .skip) [(.sl false none x0)] [] K = f15_T k (fun u => K (f15_out u)) (fun v => iter (loopB (f15_cx) k [.r, .r, .l, .r, .b] (Try.f15.body.getD .skip) (retK (f15_cx) [] Try.f15.results.toList K) []) k (f15_S1 v)) x0 := by kernel_rfl
theorem f15_ev {X : Type} (k : Nat) (K : Out → Option X) (x0 : List CV) : evFn (f15_cx) [] k Try.f15.ntmps Try.f15.results.toList (Try.f15.body.getD .skip) [(.sl false none x0)] [] K = f15_A k X (fun u => K (f15_out u)) x0 := (f15_ev' k K x0).trans (by rw [f15_L1_it k K]; rfl)
theorem f15_okA (k : Nat) : AnsOk Try.prog 15 (f15_cOf (f15_A k)) := by
  intro X xs ns K x h
  unfold f15_cOf at h ⊢
  split at h
  · exact ans_main S (f15_Cok) Try.func15 (ent_of Try.func15 (by kernel_rfl) rfl) rfl (fun X K => f15_ev k K _) h
  · cases h
/-- "outpost/outpostref01.Copy" -/
def f15 {X : Type} (k : Nat) (K : Nat × (List CV) → Option X) (x0 : List CV) : Option X := f15_A k X K x0
theorem f15_ok (k : Nat) : AnsOk Try.prog 15 (f15_cOf (fun X => @f15 X k)) := f15_okA k
abbrev f4_R : Type 1 := (X : Type) → (Bool → Option X) → Int → Int → (List CV) → Option X
def f4_out (u : Bool) : Out := ⟨(.v (CV.bool u)), []⟩
def f4_cOf (R : f4_R) : FnC := fun X xs ns K => match xs, ns with
  | [(.v (CV.int .i64 x0)), (.v (CV.int .i64 x1)), (.sl true (some 4) x2)], [] => R X (fun u => K (f4_out u)) x0 x1 x2
  | _, _ => none
def f4_plan : Nat → Option (List Nat × List Wk)
  | 0 => some ([0, 1, 2], [])
  | 1 => some ([0, 1, 2], [])
  | 2 => some ([], [])
  | 3 => some ([0, 1, 2], [])
  | 4 => some ([], [])
  | 5 => some ([0, 1, 2], [])
  | 6 => some ([2, 7], [])
  | 7 => some ([7, 35, 36, 37], [])
  | 8 => some ([7, 35, 36, 37], [])
  | 9 => some ([7, 9, 35, 36, 37], [])
  | 10 => some ([7, 9, 10, 35, 36, 37], [])
  | 11 => some ([7, 9, 10, 11, 35, 36, 37], [])
  | 12 => some ([7, 9, 10, 11, 35, 36, 37, 44], [])
  | 13 => some ([7, 9, 10, 35, 36, 37], [])
  | 14 => some ([7, 9, 10, 12, 35, 36, 37], [])
  | 15 => some ([7, 9, 10, 11, 12, 35, 36, 37], [])
  | 16 => some ([7, 9, 10, 11, 12, 35, 36, 37, 56, 57], [])
  | 17 => some ([7, 9, 10, 11, 12, 35, 36, 37, 56, 57], [])
  | 18 => some ([7, 9, 10, 11, 12, 13, 35, 36, 37, 56, 57], [])
  | 19 => some ([7, 9, 10, 11, 12, 35, 36, 37, 56, 57], [])
  | 20 => some ([7, 9, 10, 11, 35, 36, 37, 44], [])
  | 21 => some ([7, 9, 10, 35, 36, 37], [])
  | 22 => some ([7, 9, 10, 14, 15, 35, 36, 37], [])
  | 23 => some ([7, 9, 10, 14, 15, 35, 36, 37, 79, 80], [])
  | 24 => some ([7, 9, 10, 14, 15, 35, 36, 37, 79, 80], [])
  | 25 => some ([7, 9, 10, 14, 15, 16, 35, 36, 37, 79, 80], [])
  | 26 => some ([7, 9, 10, 14, 15, 35, 36, 37, 79, 80], [])
  | 27 => some ([7, 9, 10, 15, 35, 36, 37], [])
  | 28 => some ([7, 9, 10, 11, 35, 36, 37, 44], [])
  | 29 => some ([7, 9, 10, 11, 35, 36, 37], [])
  | 30 => some ([7, 9, 10, 11, 35, 36, 37, 44], [])
  | 31 => some ([7, 9, 10, 11, 35, 36, 37], [])
  | 32 => some ([7, 9, 10, 11, 35, 36, 37], [])
  | 33 => some ([7, 9, 10, 11, 17, 35, 36, 37], [])
  | 34 => some ([7, 9, 10, 11, 17, 35, 36, 37, 104, 105], [])
  | 35 => some ([7, 9, 10, 11, 17, 35, 36, 37, 104, 105], [])
  | 36 => some ([7, 9, 10, 11, 17, 18, 35, 36, 37, 104, 105], [])
  | 37 => some ([], [])
  | 38 => some ([7, 9, 10, 11, 17, 35, 36, 37, 104, 105], [])
  | 39 => some ([7, 35, 36, 37], [])
  | 40 => some ([], [])
  | _ => none
def f4_C (R_f7 : f7_R) (R_f13 : f13_R) (R_f8 : f8_R) (R_f14 : f14_R) (R_f15 : f15_R) (R_f16 : f16_R) (R_f9 : f9_R) (R_f17 : f17_R) (R_f18 : f18_R) : Fns := (orC 7 (f7_cOf R_f7) (orC 8 (f8_cOf R_f8) (orC 9 (f9_cOf R_f9) (orC 13 (f13_cOf R_f13) (orC 14 (f14_cOf R_f14) (orC 15 (f15_cOf R_f15) (orC 16 (f16_cOf R_f16) (orC 17 (f17_cOf R_f17) (orC 18 (f18_cOf R_f18) noC)))))))))
theorem f4_Cok (R_f7 : f7_R) (R_f13 : f13_R) (R_f8 : f8_R) (R_f14 : f14_R) (R_f15 : f15_R) (R_f16 : f16_R) (R_f9 : f9_R) (R_f17 : f17_R) (R_f18 : f18_R) (hR_f7 : AnsOk Try.prog 7 (f7_cOf R_f7)) (hR_f13 : AnsOk Try.prog 13 (f13_cOf R_f13)) (hR_f8 : AnsOk Try.prog 8 (f8_cOf R_f8)) (hR_f14 : AnsOk Try.prog 14 (f14_cOf R_f14)) (hR_f15 : AnsOk Try.prog 15 (f15_cOf R_f15)) (hR_f16 : AnsOk Try.prog 16 (f16_cOf R_f16)) (hR_f9 : AnsOk Try.prog 9 (f9_cOf R_f9)) (hR_f17 : AnsOk Try.prog 17 (f17_cOf R_f17)) (hR_f18 : AnsOk Try.prog 18 (f18_cOf R_f18)) : CsOk Try.prog (f4_C R_f7 R_f13 R_f8 R_f14 R_f15 R_f16 R_f9 R_f17 R_f18) := (orC_ok hR_f7 (orC_ok hR_f8 (orC_ok hR_f9 (orC_ok hR_f13 (orC_ok hR_f14 (orC_ok hR_f15 (orC_ok hR_f16 (orC_ok hR_f17 (orC_ok hR_f18 noC_ok)))))))))
def f4_cx (R_f7 : f7_R) (R_f13 : f13_R) (R_f8 : f8_R) (R_f14 : f14_R) (R_f15 : f15_R) (R_f16 : f16_R) (R_f9 : f9_R) (R_f17 : f17_R) (R_f18 : f18_R) (hR_f7 : AnsOk Try.prog 7 (f7_cOf R_f7)) (hR_f13 : AnsOk Try.prog 13 (f13_cOf R_f13)) (hR_f8 : AnsOk Try.prog 8 (f8_cOf R_f8)) (hR_f14 : AnsOk Try.prog 14 (f14_cOf R_f14)) (hR_f15 : AnsOk Try.prog 15 (f15_cOf R_f15)) (hR_f16 : AnsOk Try.prog 16 (f16_cOf R_f16)) (hR_f9 : AnsOk Try.prog 9 (f9_cOf R_f9)) (hR_f17 : AnsOk Try.prog 17 (f17_cOf R_f17)) (hR_f18 : AnsOk Try.prog 18 (f18_cOf R_f18)) : Cx := mkCx (tabOf rows) (f4_C R_f7 R_f13 R_f8 R_f14 R_f15 R_f16 R_f9 R_f17 R_f18) md (cmpIn cmps) f4_plan (f4_Cok R_f7 R_f13 R_f8 R_f14 R_f15 R_f16 R_f9 R_f17 R_f18 hR_f7 hR_f13 hR_f8 hR_f14 hR_f15 hR_f16 hR_f9 hR_f17 hR_f18)
def f4_S1 (v : (List CV) × Int × Int × Nat × Int × Nat × Int × Int × Bool × (List CV) × (List CV)) : St := ⟨[.undef, .undef, .undef, .undef, .undef, .undef, .undef, (.ptr [34] 0 0 0), .undef, .undef, .undef, .undef, .undef, .undef, .undef, .undef, .undef, .undef, .undef, .undef, .undef, .undef, .undef, .undef, .undef, .undef, .undef, .undef, .undef, .undef, .undef, .undef, .undef, .undef, .undef, (.sl true (some 4) v.1), (.v (CV.int .i64 v.2.1)), (.v (CV.int .i64 v.2.2.1)), .undef, .undef, .undef, .undef, .undef, .undef, .undef, .undef, .undef, .undef, .undef, .undef, .undef, .undef, .undef, .undef, .undef, .undef, .undef, .undef, .undef, .undef, .undef, .undef, .undef, .undef, .undef, .undef, .undef, .undef, .undef, .undef, .undef, .undef, .undef, .undef, .undef, .undef, .undef, .undef, .undef, .undef, .undef, .undef, .undef, .undef, .undef, .undef, .undef, .undef, .undef, .undef, .undef, .undef, .undef, .undef, .undef, .undef, .undef, .undef, .undef, .undef, .undef, .undef, .undef, .undef, .undef, .undef, .undef, .undef, .undef, .undef, .undef, .undef, .undef, .undef, .undef, .undef, .undef, .undef, .undef, .undef, .undef, .undef, .undef, .undef, .undef, .undef, .undef, .undef, .undef, .undef, .undef, .undef, .undef, .undef, .undef, .undef, .undef, .undef, .undef, .undef, .undef, .undef, .undef, .undef, .undef, .undef, .undef, .undef, .undef, .undef, .undef, .undef, .undef, .undef, .undef], [([34], (.obj [(.osl [0, 34] none 0 v.2.2.2.1), (.v (CV.int .i64 v.2.2.2.2.1)), (.osl [2, 34] none 0 v.2.2.2.2.2.1), (.v (CV.int .i64 v.2.2.2.2.2.2.1)), (.v (CV.int .i64 v.2.2.2.2.2.2.2.1)), (.v (CV.bool v.2.2.2.2.2.2.2.2.1))])), ([0, 34], (.row false none v.2.2.2.2.2.2.2.2.2.1)), ([2, 34], (.row false none v.2.2.2.2.2.2.2.2.2.2))]⟩
def f4_S2 (v : Nat × Int × Nat × (List CV) × Int × Int × Int × Int × Int × Int × Int × (List CV) × (List CV) × (List CV) × Nat × Int × Nat × Int × Int × Bool × (List CV) × (List CV)) : St := ⟨[.undef, .undef, .undef, .undef, .undef, .undef, .undef, (.ptr [34] 0 0 0), .undef, (.ptr [9] 0 0 0), (.osl [10] none 0 v.1), (.v (CV.int .i64 v.2.1)), (.osl [12] none 0 v.2.2.1), .undef, .undef, .undef, .undef, .undef, .undef, .undef, .undef, .undef, .undef, .undef, .undef, .undef, .undef, .undef, .undef, .undef, .undef, .undef, .undef, .undef, .undef, (.sl true (some 4) v.2.2.2.1), (.v (CV.int .i64 v.2.2.2.2.1)), (.v (CV.int .i64 v.2.2.2.2.2.1)), .undef, .undef, .undef, .undef, .undef, .undef, .undef, .undef, .undef, .undef, .undef, .undef, .undef, .undef, .undef, .undef, .undef, .undef, (.v (CV.int .i64 v.2.2.2.2.2.2.1)), (.v (CV.int .i64 v.2.2.2.2.2.2.2.1)), .undef, .undef, .undef, .undef, .undef, .undef, .undef, .undef, .undef, .undef, .undef, .undef, .undef, .undef, .undef, .undef, .undef, .undef, .undef, .undef, .undef, .undef, .undef, .undef, .undef, .undef, .undef, .undef, .undef, .undef, .undef, .undef, .undef, .undef, .undef, .undef, .undef, .undef, .undef, .undef, .undef, .undef, .undef, .undef, .undef, .undef, .undef, .undef, .undef, .undef, .undef, .undef, .undef, .undef, .undef, .undef, .undef, .undef, .undef, .undef, .undef, .undef, .undef, .undef, .undef, .undef, .undef, .undef, .undef, .undef, .undef, .undef, .undef, .undef, .undef, .undef, .undef, .undef, .undef, .undef, .undef, .undef, .undef, .undef, .undef, .undef, .undef, .undef, .undef, .undef, .undef, .undef, .undef, .undef, .undef, .undef, .undef], [([9], (.obj [(.v (CV.int .i64 v.2.2.2.2.2.2.2.2.1)), (.v (CV.int .i64 v.2.2.2.2.2.2.2.2.2.1)), (.v (CV.int .i64 v.2.2.2.2.2.2.2.2.2.2.1)), (.sl true none v.2.2.2.2.2.2.2.2.2.2.2.1)])), ([10], (.row false none v.2.2.2.2.2.2.2.2.2.2.2.2.1)), ([12], (.row false none v.2.2.2.2.2.2.2.2.2.2.2.2.2.1)), ([34], (.obj [(.osl [0, 34] none 0 v.2.2.2.2.2.2.2.2.2.2.2.2.2.2.1), (.v (CV.int .i64 v.2.2.2.2.2.2.2.2.2.2.2.2.2.2.2.1)), (.osl [2, 34] none 0 v.2.2.2.2.2.2.2.2.2.2.2.2.2.2.2.2.1), (.v (CV.int .i64 v.2.2.2.2.2.2.2.2.2.2.2.2.2.2.2.2.2.1)), (.v (CV.int .i64 v.2.2.2.2.2.2.2.2.2.2.2.2.2.2.2.2.2.2.1)), (.v (CV.bool v.2.2.2.2.2.2.2.2.2.2.2.2.2.2.2.2.2.2.2.1))])), ([0, 34], (.row false none v.2.2.2.2.2.2.2.2.2.2.2.2.2.2.2.2.2.2.2.2.1)), ([2, 34], (.row false none v.2.2.2.2.2.2.2.2.2.2.2.2.2.2.2.2.2.2.2.2.2))]⟩
def f4_S3 (v : Nat × Int × Nat × (List CV) × Int × Int × Int × Int × Int × Int × Int × (List CV) × (List CV) × (List CV) × Nat × Int × Nat × Int × Int × Bool × (List CV) × (List CV)) : St := ⟨[.undef, .undef, .undef, .undef, .undef, .undef, .undef, (.ptr [34] 0 0 0), .undef, (.ptr [9] 0 0 0), (.osl [10] none 0 v.1), (.v (CV.int .i64 v.2.1)), .undef, .undef, .undef, .undef, .undef, (.osl [17] none 0 v.2.2.1), .undef, .undef, .undef, .undef, .undef, .undef, .undef, .undef, .undef, .undef, .undef, .undef, .undef, .undef, .undef, .undef, .undef, (.sl true (some 4) v.2.2.2.1), (.v (CV.int .i64 v.2.2.2.2.1)), (.v (CV.int .i64 v.2.2.2.2.2.1)), .undef, .undef, .undef, .undef, .undef, .undef, .undef, .undef, .undef, .undef, .undef, .undef, .undef, .undef, .undef, .undef, .undef, .undef, .undef, .undef, .undef, .undef, .undef, .undef, .undef, .undef, .undef, .undef, .undef, .undef, .undef, .undef, .undef, .undef, .undef, .undef, .undef, .undef, .undef, .undef, .undef, .undef, .undef, .undef, .undef, .undef, .undef, .undef, .undef, .undef, .undef, .undef, .undef, .undef, .undef, .undef, .undef, .undef, .undef, .undef, .undef, .undef, .undef, .undef, .undef, .undef, (.v (CV.int .i64 v.2.2.2.2.2.2.1)), (.v (CV.int .i64 v.2.2.2.2.2.2.2.1)), .undef, .undef, .undef, .undef, .undef, .undef, .undef, .undef, .undef, .undef, .undef, .undef, .undef, .undef, .undef, .undef, .undef, .undef, .undef, .undef, .undef, .undef, .undef, .undef, .undef, .undef, .undef, .undef, .undef, .undef, .undef, .undef, .undef, .undef, .undef, .undef, .undef, .undef, .undef, .undef, .undef, .undef, .undef, .undef, .undef, .undef, .undef, .undef, .undef], [([9], (.obj [(.v (CV.int .i64 v.2.2.2.2.2.2.2.2.1)), (.v (CV.int .i64 v.2.2.2.2.2.2.2.2.2.1)), (.v (CV.int .i64 v.2.2.2.2.2.2.2.2.2.2.1)), (.sl true none v.2.2.2.2.2.2.2.2.2.2.2.1)])), ([10], (.row false none v.2.2.2.2.2.2.2.2.2.2.2.2.1)), ([17], (.row false none v.2.2.2.2.2.2.2.2.2.2.2.2.2.1)), ([34], (.obj [(.osl [0, 34] none 0 v.2.2.2.2.2.2.2.2.2.2.2.2.2.2.1), (.v (CV.int .i64 v.2.2.2.2.2.2.2.2.2.2.2.2.2.2.2.1)), (.osl [2, 34] none 0 v.2.2.2.2.2.2.2.2.2.2.2.2.2.2.2.2.1), (.v (CV.int .i64 v.2.2.2.2.2.2.2.2.2.2.2.2.2.2.2.2.2.1)), (.v (CV.int .i64 v.2.2.2.2.2.2.2.2.2.2.2.2.2.2.2.2.2.2.1)), (.v (CV.bool v.2.2.2.2.2.2.2.2.2.2.2.2.2.2.2.2.2.2.2.1))])), ([0, 34], (.row false none v.2.2.2.2.2.2.2.2.2.2.2.2.2.2.2.2.2.2.2.2.1)), ([2, 34], (.row false none v.2.2.2.2.2.2.2.2.2.2.2.2.2.2.2.2.2.2.2.2.2))]⟩
def f4_S4 (v : Nat × Nat × Int × (List CV) × Int × Int × Int × Int × Int × Int × Int × (List CV) × (List CV) × (List CV) × Nat × Int × Nat × Int × Int × Bool × (List CV) × (List CV)) : St := ⟨[.undef, .undef, .undef, .undef, .undef, .undef, .undef, (.ptr [34] 0 0 0), .undef, (.ptr [9] 0 0 0), (.osl [10] none 0 v.1), .undef, .undef, .undef, (.osl [14] none 0 v.2.1), (.v (CV.int .i64 v.2.2.1)), .undef, .undef, .undef, .undef, .undef, .undef, .undef, .undef, .undef, .undef, .undef, .undef, .undef, .undef, .undef, .undef, .undef, .undef, .undef, (.sl true (some 4) v.2.2.2.1), (.v (CV.int .i64 v.2.2.2.2.1)), (.v (CV.int .i64 v.2.2.2.2.2.1)), .undef, .undef, .undef, .undef, .undef, .undef, .undef, .undef, .undef, .undef, .undef, .undef, .undef, .undef, .undef, .undef, .undef, .undef, .undef, .undef, .undef, .undef, .undef, .undef, .undef, .undef, .undef, .undef, .undef, .undef, .undef, .undef, .undef, .undef, .undef, .undef, .undef, .undef, .undef, .undef, .undef, (.v (CV.int .i64 v.2.2.2.2.2.2.1)), (.v (CV.int .i64 v.2.2.2.2.2.2.2.1)), .undef, .undef, .undef, .undef, .undef, .undef, .undef, .undef, .undef, .undef, .undef, .undef, .undef, .undef, .undef, .undef, .undef, .undef, .undef, .undef, .undef, .undef, .undef, .undef, .undef, .undef, .undef, .undef, .undef, .undef, .undef, .undef, .undef, .undef, .undef, .undef, .undef, .undef, .undef, .undef, .undef, .undef, .undef, .undef, .undef, .undef, .undef, .undef, .undef, .undef, .undef, .undef, .undef, .undef, .undef, .undef, .undef, .undef, .undef, .undef, .undef, .undef, .undef, .undef, .undef, .undef, .undef, .undef, .undef, .undef, .undef, .undef, .undef, .undef], [([9], (.obj [(.v (CV.int .i64 v.2.2.2.2.2.2.2.2.1)), (.v (CV.int .i64 v.2.2.2.2.2.2.2.2.2.1)), (.v (CV.int .i64 v.2.2.2.2.2.2.2.2.2.2.1)), (.sl true none v.2.2.2.2.2.2.2.2.2.2.2.1)])), ([10], (.row false none v.2.2.2.2.2.2.2.2.2.2.2.2.1)), ([14], (.row false none v.2.2.2.2.2.2.2.2.2.2.2.2.2.1)), ([34], (.obj [(.osl [0, 34] none 0 v.2.2.2.2.2.2.2.2.2.2.2.2.2.2.1), (.v (CV.int .i64 v.2.2.2.2.2.2.2.2.2.2.2.2.2.2.2.1)), (.osl [2, 34] none 0 v.2.2.2.2.2.2.2.2.2.2.2.2.2.2.2.2.1), (.v (CV.int .i64 v.2.2.2.2.2.2.2.2.2.2.2.2.2.2.2.2.2.1)), (.v (CV.int .i64 v.2.2.2.2.2.2.2.2.2.2.2.2.2.2.2.2.2.2.1)), (.v (CV.bool v.2.2.2.2.2.2.2.2.2.2.2.2.2.2.2.2.2.2.2.1))])), ([0, 34], (.row false none v.2.2.2.2.2.2.2.2.2.2.2.2.2.2.2.2.2.2.2.2.1)), ([2, 34], (.row false none v.2.2.2.2.2.2.2.2.2.2.2.2.2.2.2.2.2.2.2.2.2))]⟩
def f4_S5 (v : Nat × Int × Nat × (List CV) × Int × Int × Int × Int × Int × Int × Int × (List CV) × (List CV) × (List CV) × Nat × Int × Nat × Int × Int × Bool × (List CV) × (List CV)) : St := ⟨[.undef, .undef, .undef, .undef, .undef, .undef, .undef, (.ptr [34] 0 0 0), .undef, (.ptr [9] 0 0 0), (.osl [10] none 0 v.1), (.v (CV.int .i64 v.2.1)), .undef, .undef, .undef, .undef, .undef, (.osl [17] none 0 v.2.2.1), .undef, .undef, .undef, .undef, .undef, .undef, .undef, .undef, .undef, .undef, .undef, .undef, .undef, .undef, .undef, .undef, .undef, (.sl true (some 4) v.2.2.2.1), (.v (CV.int .i64 v.2.2.2.2.1)), (.v (CV.int .i64 v.2.2.2.2.2.1)), .undef, .undef, .undef, .undef, .undef, .undef, .undef, .undef, .undef, .undef, .undef, .undef, .undef, .undef, .undef, .undef, .undef, .undef, .undef, .undef, .undef, .undef, .undef, .undef, .undef, .undef, .undef, .undef, .undef, .undef, .undef, .undef, .undef, .undef, .undef, .undef, .undef, .undef, .undef, .undef, .undef, .undef, .undef, .undef, .undef, .undef, .undef, .undef, .undef, .undef, .undef, .undef, .undef, .undef, .undef, .undef, .undef, .undef, .undef, .undef, .undef, .undef, .undef, .undef, .undef, .undef, (.v (CV.int .i64 v.2.2.2.2.2.2.1)), (.v (CV.int .i64 v.2.2.2.2.2.2.2.1)), .undef, .undef, .undef, .undef, .undef, .undef, .undef, .undef, .undef, .undef, .undef, .undef, .undef, .undef, .undef, .undef, .undef, .undef, .undef, .undef, .undef, .undef, .undef, .undef, .undef, .undef, .undef, .undef, .undef, .undef, .undef, .undef, .undef, .undef, .undef, .undef, .undef, .undef, .undef, .undef, .undef, .undef, .undef, .undef, .undef, .undef, .undef, .undef, .undef], [([9], (.obj [(.v (CV.int .i64 v.2.2.2.2.2.2.2.2.1)), (.v (CV.int .i64 v.2.2.2.2.2.2.2.2.2.1)), (.v (CV.int .i64 v.2.2.2.2.2.2.2.2.2.2.1)), (.sl true none v.2.2.2.2.2.2.2.2.2.2.2.1)])), ([10], (.row false none v.2.2.2.2.2.2.2.2.2.2.2.2.1)), ([17], (.row false none v.2.2.2.2.2.2.2.2.2.2.2.2.2.1)), ([34], (.obj [(.osl [0, 34] none 0 v.2.2.2.2.2.2.2.2.2.2.2.2.2.2.1), (.v (CV.int .i64 v.2.2.2.2.2.2.2.2.2.2.2.2.2.2.2.1)), (.osl [2, 34] none 0 v.2.2.2.2.2.2.2.2.2.2.2.2.2.2.2.2.1), (.v (CV.int .i64 v.2.2.2.2.2.2.2.2.2.2.2.2.2.2.2.2.2.1)), (.v (CV.int .i64 v.2.2.2.2.2.2.2.2.2.2.2.2.2.2.2.2.2.2.1)), (.v (CV.bool v.2.2.2.2.2.2.2.2.2.2.2.2.2.2.2.2.2.2.2.1))])), ([0, 34], (.row false none v.2.2.2.2.2.2.2.2.2.2.2.2.2.2.2.2.2.2.2.2.1)), ([2, 34], (.row false none v.2.2.2.2.2.2.2.2.2.2.2.2.2.2.2.2.2.2.2.2.2))]⟩
def f4_S6 (v : Nat × Nat × (List CV) × Int × Int × Int × Int × Int × Int × Int × (List CV) × (List CV) × (List CV) × Nat × Int × Nat × Int × Int × Bool × (List CV) × (List CV)) : St := ⟨[.undef, .undef, .undef, .undef, .undef, .undef, .undef, (.ptr [34] 0 0 0), .undef, (.ptr [9] 0 0 0), (.osl [10] none 0 v.1), (.v (CV.int .i64 0)), .undef, .undef, .undef, .undef, .undef, (.osl [17] none 0 v.2.1), .undef, .undef, .undef, .undef, .undef, .undef, .undef, .undef, .undef, .undef, .undef, .undef, .undef, .undef, .undef, .undef, .undef, (.sl true (some 4) v.2.2.1), (.v (CV.int .i64 v.2.2.2.1)), (.v (CV.int .i64 v.2.2.2.2.1)), .undef, .undef, .undef, .undef, .undef, .undef, .undef, .undef, .undef, .undef, .undef, .undef, .undef, .undef, .undef, .undef, .undef, .undef, .undef, .undef, .undef, .undef, .undef, .undef, .undef, .undef, .undef, .undef, .undef, .undef, .undef, .undef, .undef, .undef, .undef, .undef, .undef, .undef, .undef, .undef, .undef, .undef, .undef, .undef, .undef, .undef, .undef, .undef, .undef, .undef, .undef, .undef, .undef, .undef, .undef, .undef, .undef, .undef, .undef, .undef, .undef, .undef, .undef, .undef, .undef, .undef, (.v (CV.int .i64 v.2.2.2.2.2.1)), (.v (CV.int .i64 v.2.2.2.2.2.2.1)), .undef, .undef, .undef, .undef, .undef, .undef, .undef, .undef, .undef, .undef, .undef, .undef, .undef, .undef, .undef, .undef, .undef, .undef, .undef, .undef, .undef, .undef, .undef, .undef, .undef, .undef, .undef, .undef, .undef, .undef, .undef, .undef, .undef, .undef, .undef, .undef, .undef, .undef, .undef, .undef, .undef, .undef, .undef, .undef, .undef, .undef, .undef, .undef, .undef], [([9], (.obj [(.v (CV.int .i64 v.2.2.2.2.2.2.2.1)), (.v (CV.int .i64 v.2.2.2.2.2.2.2.2.1)), (.v (CV.int .i64 v.2.2.2.2.2.2.2.2.2.1)), (.sl true none v.2.2.2.2.2.2.2.2.2.2.1)])), ([10], (.row false none v.2.2.2.2.2.2.2.2.2.2.2.1)), ([17], (.row false none v.2.2.2.2.2.2.2.2.2.2.2.2.1)), ([34], (.obj [(.osl [0, 34] none 0 v.2.2.2.2.2.2.2.2.2.2.2.2.2.1), (.v (CV.int .i64 v.2.2.2.2.2.2.2.2.2.2.2.2.2.2.1)), (.osl [2, 34] none 0 v.2.2.2.2.2.2.2.2.2.2.2.2.2.2.2.1), (.v (CV.int .i64 v.2.2.2.2.2.2.2.2.2.2.2.2.2.2.2.2.1)), (.v (CV.int .i64 v.2.2.2.2.2.2.2.2.2.2.2.2.2.2.2.2.2.1)), (.v (CV.bool v.2.2.2.2.2.2.2.2.2.2.2.2.2.2.2.2.2.2.1))])), ([0, 34], (.row false none v.2.2.2.2.2.2.2.2.2.2.2.2.2.2.2.2.2.2.2.1)), ([2, 34], (.row false none v.2.2.2.2.2.2.2.2.2.2.2.2.2.2.2.2.2.2.2.2))]⟩
def f4_S7 (v : Nat × Nat × (List CV) × Int × Int × Int × Int × Int × Int × Int × (List CV) × (List CV) × (List CV) × Nat × Int × Nat × Int × Int × Bool × (List CV) × (List CV)) : St := ⟨[.undef, .undef, .undef, .undef, .undef, .undef, .undef, (.ptr [34] 0 0 0), .undef, (.ptr [9] 0 0 0), (.osl [10] none 0 v.1), (.v (CV.int .i64 0)), .undef, .undef, .undef, .undef, .undef, (.osl [17] none 0 v.2.1), .undef, .undef, .undef, .undef, .undef, .undef, .undef, .undef, .undef, .undef, .undef, .undef, .undef, .undef, .undef, .undef, .undef, (.sl true (some 4) v.2.2.1), (.v (CV.int .i64 v.2.2.2.1)), (.v (CV.int .i64 v.2.2.2.2.1)), .undef, .undef, .undef, .undef, .undef, .undef, .undef, .undef, .undef, .undef, .undef, .undef, .undef, .undef, .undef, .undef, .undef, .undef, .undef, .undef, .undef, .undef, .undef, .undef, .undef, .undef, .undef, .undef, .undef, .undef, .undef, .undef, .undef, .undef, .undef, .undef, .undef, .undef, .undef, .undef, .undef, .undef, .undef, .undef, .undef, .undef, .undef, .undef, .undef, .undef, .undef, .undef, .undef, .undef, .undef, .undef, .undef, .undef, .undef, .undef, .undef, .undef, .undef, .undef, .undef, .undef, (.v (CV.int .i64 v.2.2.2.2.2.1)), (.v (CV.int .i64 v.2.2.2.2.2.2.1)), .undef, .undef, .undef, .undef, .undef, .undef, .undef, .undef, .undef, .undef, .undef, .undef, .undef, .undef, .undef, .undef, .undef, .undef, .undef, .undef, .undef, .undef, .undef, .undef, .undef, .undef, .undef, .undef, .undef, .undef, .undef, .undef, .undef, .undef, .undef, .undef, .undef, .undef, .undef, .undef, .undef, .undef, .undef, .undef, .undef, .undef, .undef, .undef, .undef], [([9], (.obj [(.v (CV.int .i64 v.2.2.2.2.2.2.2.1)), (.v (CV.int .i64 v.2.2.2.2.2.2.2.2.1)), (.v (CV.int .i64 v.2.2.2.2.2.2.2.2.2.1)), (.sl true none v.2.2.2.2.2.2.2.2.2.2.1)])), ([10], (.row false none v.2.2.2.2.2.2.2.2.2.2.2.1)), ([17], (.row false none v.2.2.2.2.2.2.2.2.2.2.2.2.1)), ([34], (.obj [(.osl [0, 34] none 0 v.2.2.2.2.2.2.2.2.2.2.2.2.2.1), (.v (CV.int .i64 v.2.2.2.2.2.2.2.2.2.2.2.2.2.2.1)), (.osl [2, 34] none 0 v.2.2.2.2.2.2.2.2.2.2.2.2.2.2.2.1), (.v (CV.int .i64 v.2.2.2.2.2.2.2.2.2.2.2.2.2.2.2.2.1)), (.v (CV.int .i64 v.2.2.2.2.2.2.2.2.2.2.2.2.2.2.2.2.2.1)), (.v (CV.bool v.2.2.2.2.2.2.2.2.2.2.2.2.2.2.2.2.2.2.1))])), ([0, 34], (.row false none v.2.2.2.2.2.2.2.2.2.2.2.2.2.2.2.2.2.2.2.1)), ([2, 34], (.row false none v.2.2.2.2.2.2.2.2.2.2.2.2.2.2.2.2.2.2.2.2))]⟩
def f4_J1 {X : Type} (R_f7 : f7_R) (R_f13 : f13_R) (R_f8 : f8_R) (R_f14 : f14_R) (R_f15 : f15_R) (R_f16 : f16_R) (R_f9 : f9_R) (R_f17 : f17_R) (R_f18 : f18_R) (k : Nat) (K : Bool → Option X) (rec3 : Nat × Int × Nat × (List CV) × Int × Int × Int × Int × Int × Int × Int × (List CV) × (List CV) × (List CV) × Nat × Int × Nat × Int × Int × Bool × (List CV) × (List CV) → Option X) (v19_153 : Nat × Int × Nat × (List CV) × Int × Int × Int × Int × Int × Int × Int × (List CV) × (List CV) × (List CV) × Nat × Int × Nat × Int × Int × Bool × (List CV) × (List CV)) (v185 : Unit) : Option X :=
rec3 (v19_153.1, v19_153.2.1, v19_153.2.2.1, v19_153.2.2.2.1, v19_153.2.2.2.2.1, v19_153.2.2.2.2.2.1, v19_153.2.2.2.2.2.2.1, (IntKind.wrap .i64 (v19_153.2.2.2.2.2.2.2.1 + 1)), v19_153.2.2.2.2.2.2.2.2.1, v19_153.2.2.2.2.2.2.2.2.2.1, v19_153.2.2.2.2.2.2.2.2.2.2.1, v19_153.2.2.2.2.2.2.2.2.2.2.2.1, v19_153.2.2.2.2.2.2.2.2.2.2.2.2.1, v19_153.2.2.2.2.2.2.2.2.2.2.2.2.2.1, v19_153.2.2.2.2.2.2.2.2.2.2.2.2.2.2.1, v19_153.2.2.2.2.2.2.2.2.2.2.2.2.2.2.2.1, v19_153.2.2.2.2.2.2.2.2.2.2.2.2.2.2.2.2.1, v19_153.2.2.2.2.2.2.2.2.2.2.2.2.2.2.2.2.2.1, v19_153.2.2.2.2.2.2.2.2.2.2.2.2.2.2.2.2.2.2.1, v19_153.2.2.2.2.2.2.2.2.2.2.2.2.2.2.2.2.2.2.2.1, v19_153.2.2.2.2.2.2.2.2.2.2.2.2.2.2.2.2.2.2.2.2.1, v19_153.2.2.2.2.2.2.2.2.2.2.2.2.2.2.2.2.2.2.2.2.2)
def f4_J2 {X : Type} (R_f7 : f7_R) (R_f13 : f13_R) (R_f8 : f8_R) (R_f14 : f14_R) (R_f15 : f15_R) (R_f16 : f16_R) (R_f9 : f9_R) (R_f17 : f17_R) (R_f18 : f18_R) (k : Nat) (K : Bool → Option X) (rec5 : Nat × Int × Nat × (List CV) × Int × Int × Int × Int × Int × Int × Int × (List CV) × (List CV) × (List CV) × Nat × Int × Nat × Int × Int × Bool × (List CV) × (List CV) → Option X) (v19_202 : Nat × Int × Nat × (List CV) × Int × Int × Int × Int × Int × Int × Int × (List CV) × (List CV) × (List CV) × Nat × Int × Nat × Int × Int × Bool × (List CV) × (List CV)) (v234 : Unit) : Option X :=
rec5 (v19_202.1, v19_202.2.1, v19_202.2.2.1, v19_202.2.2.2.1, v19_202.2.2.2.2.1, v19_202.2.2.2.2.2.1, v19_202.2.2.2.2.2.2.1, (IntKind.wrap .i64 (v19_202.2.2.2.2.2.2.2.1 + 1)), v19_202.2.2.2.2.2.2.2.2.1, v19_202.2.2.2.2.2.2.2.2.2.1, v19_202.2.2.2.2.2.2.2.2.2.2.1, v19_202.2.2.2.2.2.2.2.2.2.2.2.1, v19_202.2.2.2.2.2.2.2.2.2.2.2.2.1, v19_202.2.2.2.2.2.2.2.2.2.2.2.2.2.1, v19_202.2.2.2.2.2.2.2.2.2.2.2.2.2.2.1, v19_202.2.2.2.2.2.2.2.2.2.2.2.2.2.2.2.1, v19_202.2.2.2.2.2.2.2.2.2.2.2.2.2.2.2.2.1, v19_202.2.2.2.2.2.2.2.2.2.2.2.2.2.2.2.2.2.1, v19_202.2.2.2.2.2.2.2.2.2.2.2.2.2.2.2.2.2.2.1, v19_202.2.2.2.2.2.2.2.2.2.2.2.2.2.2.2.2.2.2.2.1, v19_202.2.2.2.2.2.2.2.2.2.2.2.2.2.2.2.2.2.2.2.2.1, v19_202.2.2.2.2.2.2.2.2.2.2.2.2.2.2.2.2.2.2.2.2.2)
def f4_J3 {X : Type} (R_f7 : f7_R) (R_f13 : f13_R) (R_f8 : f8_R) (R_f14 : f14_R) (R_f15 : f15_R) (R_f16 : f16_R) (R_f9 : f9_R) (R_f17 : f17_R) (R_f18 : f18_R) (k : Nat) (K : Bool → Option X) (rec6 : Nat × Nat × (List CV) × Int × Int × Int × Int × Int × Int × Int × (List CV) × (List CV) × (List CV) × Nat × Int × Nat × Int × Int × Bool × (List CV) × (List CV) → Option X) (v19_246 : Nat × Nat × (List CV) × Int × Int × Int × Int × Int × Int × Int × (List CV) × (List CV) × (List CV) × Nat × Int × Nat × Int × Int × Bool × (List CV) × (List CV)) (v260 : Unit) : Option X :=
rec6 (v19_246.1, v19_246.2.1, v19_246.2.2.1, v19_246.2.2.2.1, v19_246.2.2.2.2.1, v19_246.2.2.2.2.2.1, (IntKind.wrap .i64 (v19_246.2.2.2.2.2.2.1 + 1)), v19_246.2.2.2.2.2.2.2.1, v19_246.2.2.2.2.2.2.2.2.1, v19_246.2.2.2.2.2.2.2.2.2.1, v19_246.2.2.2.2.2.2.2.2.2.2.1, v19_246.2.2.2.2.2.2.2.2.2.2.2.1, v19_246.2.2.2.2.2.2.2.2.2.2.2.2.1, v19_246.2.2.2.2.2.2.2.2.2.2.2.2.2.1, v19_246.2.2.2.2.2.2.2.2.2.2.2.2.2.2.1, v19_246.2.2.2.2.2.2.2.2.2.2.2.2.2.2.2.1, v19_246.2.2.2.2.2.2.2.2.2.2.2.2.2.2.2.2.1, v19_246.2.2.2.2.2.2.2.2.2.2.2.2.2.2.2.2.2.1, v19_246.2.2.2.2.2.2.2.2.2.2.2.2.2.2.2.2.2.2.1, v19_246.2.2.2.2.2.2.2.2.2.2.2.2.2.2.2.2.2.2.2.1, v19_246.2.2.2.2.2.2.2.2.2.2.2.2.2.2.2.2.2.2.2.2)
def f4_J4 {X : Type} (R_f7 : f7_R) (R_f13 : f13_R) (R_f8 : f8_R) (R_f14 : f14_R) (R_f15 : f15_R) (R_f16 : f16_R) (R_f9 : f9_R) (R_f17 : f17_R) (R_f18 : f18_R) (k : Nat) (K : Bool → Option X) (rec7 : Nat × Nat × (List CV) × Int × Int × Int × Int × Int × Int × Int × (List CV) × (List CV) × (List CV) × Nat × Int × Nat × Int × Int × Bool × (List CV) × (List CV) → Option X) (v19_266 : Nat × Nat × (List CV) × Int × Int × Int × Int × Int × Int × Int × (List CV) × (List CV) × (List CV) × Nat × Int × Nat × Int × Int × Bool × (List CV) × (List CV)) (v280 : Unit) : Option X :=
rec7 (v19_266.1, v19_266.2.1, v19_266.2.2.1, v19_266.2.2.2.1, v19_266.2.2.2.2.1, v19_266.2.2.2.2.2.1, (IntKind.wrap .i64 (v19_266.2.2.2.2.2.2.1 + 1)), v19_266.2.2.2.2.2.2.2.1, v19_266.2.2.2.2.2.2.2.2.1, v19_266.2.2.2.2.2.2.2.2.2.1, v19_266.2.2.2.2.2.2.2.2.2.2.1, v19_266.2.2.2.2.2.2.2.2.2.2.2.1, v19_266.2.2.2.2.2.2.2.2.2.2.2.2.1, v19_266.2.2.2.2.2.2.2.2.2.2.2.2.2.1, v19_266.2.2.2.2.2.2.2.2.2.2.2.2.2.2.1, v19_266.2.2.2.2.2.2.2.2.2.2.2.2.2.2.2.1, v19_266.2.2.2.2.2.2.2.2.2.2.2.2.2.2.2.2.1, v19_266.2.2.2.2.2.2.2.2.2.2.2.2.2.2.2.2.2.1, v19_266.2.2.2.2.2.2.2.2.2.2.2.2.2.2.2.2.2.2.1, v19_266.2.2.2.2.2.2.2.2.2.2.2.2.2.2.2.2.2.2.2.1, v19_266.2.2.2.2.2.2.2.2.2.2.2.2.2.2.2.2.2.2.2.2)
def f4_T7 {X : Type} (R_f7 : f7_R) (R_f13 : f13_R) (R_f8 : f8_R) (R_f14 : f14_R) (R_f15 : f15_R) (R_f16 : f16_R) (R_f9 : f9_R) (R_f17 : f17_R) (R_f18 : f18_R) (k : Nat) (K : Bool → Option X) (rec1 : (List CV) × Int × Int × Nat × Int × Nat × Int × Int × Bool × (List CV) × (List CV) → Option X)  (rec7 : Nat × Nat × (List CV) × Int × Int × Int × Int × Int × Int × Int × (List CV) × (List CV) × (List CV) × Nat × Int × Nat × Int × Int × Bool × (List CV) × (List CV) → Option X) (v19_266 : Nat × Nat × (List CV) × Int × Int × Int × Int × Int × Int × Int × (List CV) × (List CV) × (List CV) × Nat × Int × Nat × Int × Int × Bool × (List CV) × (List CV)) : Option X :=
(bif (decide (v19_266.2.2.2.2.2.2.1 < v19_266.2.2.2.2.2.1)) then
grd (decide (0 ≤ v19_266.2.2.2.2.2.2.1)) <|
grd (decide (v19_266.2.2.2.2.2.2.1 < (Nat.cast (v19_266.2.1) : Int))) <|
Option.bind (v19_266.2.2.2.2.2.2.2.2.2.2.2.2.1)[(0 + (Int.toNat v19_266.2.2.2.2.2.2.1))]? fun e281 =>
grd (CV.isI .u8 e281) <|
grd (decide (0 ≤ v19_266.2.2.2.2.2.2.1)) <|
grd (decide (v19_266.2.2.2.2.2.2.1 < (Nat.cast (v19_266.1) : Int))) <|
Option.bind (v19_266.2.2.2.2.2.2.2.2.2.2.2.1)[(0 + (Int.toNat v19_266.2.2.2.2.2.2.1))]? fun e282 =>
grd (CV.isI .u8 e282) <|
(bif ((bop .andNot .u8 (CV.toI e281) (CV.toI e282)) != 0) then
K (false)
else
(bif (v19_266.2.2.2.2.2.2.2.1 != 0) then
grd (decide (0 ≤ v19_266.2.2.2.2.2.2.1)) <|
grd (decide (v19_266.2.2.2.2.2.2.1 < (Nat.cast (v19_266.2.1) : Int))) <|
Option.bind (v19_266.2.2.2.2.2.2.2.2.2.2.2.2.1)[(0 + (Int.toNat v19_266.2.2.2.2.2.2.1))]? fun e283 =>
grd (CV.isI .u8 e283) <|
grd (decide (0 ≤ v19_266.2.2.2.2.2.2.1)) <|
grd (decide (v19_266.2.2.2.2.2.2.1 < (Nat.cast (v19_266.1) : Int))) <|
Option.bind (v19_266.2.2.2.2.2.2.2.2.2.2.2.1)[(0 + (Int.toNat v19_266.2.2.2.2.2.2.1))]? fun e284 =>
grd (CV.isI .u8 e284) <|
(bif ((CV.toI e283) != (CV.toI e284)) then
K (false)
else
f4_J4 R_f7 R_f13 R_f8 R_f14 R_f15 R_f16 R_f9 R_f17 R_f18 k K rec7 v19_266 (()))
else
f4_J4 R_f7 R_f13 R_f8 R_f14 R_f15 R_f16 R_f9 R_f17 R_f18 k K rec7 v19_266 (())))
else
rec1 (v19_266.2.2.1, v19_266.2.2.2.1, (IntKind.wrap .i64 (v19_266.2.2.2.2.1 + 1)), v19_266.2.2.2.2.2.2.2.2.2.2.2.2.2.1, v19_266.2.2.2.2.2.2.2.2.2.2.2.2.2.2.1, v19_266.2.2.2.2.2.2.2.2.2.2.2.2.2.2.2.1, v19_266.2.2.2.2.2.2.2.2.2.2.2.2.2.2.2.2.1, v19_266.2.2.2.2.2.2.2.2.2.2.2.2.2.2.2.2.2.1, v19_266.2.2.2.2.2.2.2.2.2.2.2.2.2.2.2.2.2.2.1, v19_266.2.2.2.2.2.2.2.2.2.2.2.2.2.2.2.2.2.2.2.1, v19_266.2.2.2.2.2.2.2.2.2.2.2.2.2.2.2.2.2.2.2.2))
def f4_L7 {X : Type} (R_f7 : f7_R) (R_f13 : f13_R) (R_f8 : f8_R) (R_f14 : f14_R) (R_f15 : f15_R) (R_f16 : f16_R) (R_f9 : f9_R) (R_f17 : f17_R) (R_f18 : f18_R) (k : Nat) (K : Bool → Option X) (rec1 : (List CV) × Int × Int × Nat × Int × Nat × Int × Int × Bool × (List CV) × (List CV) → Option X) (rec7 : Nat × Nat × (List CV) × Int × Int × Int × Int × Int × Int × Int × (List CV) × (List CV) × (List CV) × Nat × Int × Nat × Int × Int × Bool × (List CV) × (List CV) → Option X) (v : Nat × Nat × (List CV) × Int × Int × Int × Int × Int × Int × Int × (List CV) × (List CV) × (List CV) × Nat × Int × Nat × Int × Int × Bool × (List CV) × (List CV)) : Option X := f4_T7 R_f7 R_f13 R_f8 R_f14 R_f15 R_f16 R_f9 R_f17 R_f18 k K rec1  rec7 v
set_option maxRecDepth 100000 in
theorem f4_L7_ev {X : Type} (R_f7 : f7_R) (R_f13 : f13_R) (R_f8 : f8_R) (R_f14 : f14_R) (R_f15 : f15_R) (R_f16 : f16_R) (R_f9 : f9_R) (R_f17 : f17_R) (R_f18 : f18_R) (hR_f7 : AnsOk Try.prog 7 (f7_cOf R_f7)) (hR_f13 : AnsOk Try.prog 13 (f13_cOf R_f13)) (hR_f8 : AnsOk Try.prog 8 (f8_cOf R_f8)) (hR_f14 : AnsOk Try.prog 14 (f14_cOf R_f14)) (hR_f15 : AnsOk Try.prog 15 (f15_cOf R_f15)) (hR_f16 : AnsOk Try.prog 16 (f16_cOf R_f16)) (hR_f9 : AnsOk Try.prog 9 (f9_cOf R_f9)) (hR_f17 : AnsOk Try.prog 17 (f17_cOf R_f17)) (hR_f18 : AnsOk Try.prog 18 (f18_cOf R_f18)) (k : Nat) (K : Out → Option X) (r1 : St → Option X) (r7 : St → Option X) (v : Nat × Nat × (List CV) × Int × Int × Int × Int × Int × Int × Int × (List CV) × (List CV) × (List CV) × Nat × Int × Nat × Int × Int × Bool × (List CV) × (List CV)) : loopB (f4_cx R_f7 R_f13 R_f8 R_f14 R_f15 R_f16 R_f9 R_f17 R_f18 hR_f7 hR_f13 hR_f8 hR_f14 hR_f15 hR_f16 hR_f9 hR_f17 hR_f18) k [.r, .r, .r, .r, .l, .r, .b, .o, .r, .r, .l, .b, .r, .r, .r, .r, .r, .r, .b] (Try.f4.body.getD .skip) (retK (f4_cx R_f7 R_f13 R_f8 R_f14 R_f15 R_f16 R_f9 R_f17 R_f18 hR_f7 hR_f13 hR_f8 hR_f14 hR_f15 hR_f16 hR_f9 hR_f17 hR_f18) [] Try.f4.results.toList K) [r1] r7 (f4_S7 v) = f4_T7 R_f7 R_f13 R_f8 R_f14 R_f15 R_f16 R_f9 R_f17 R_f18 k (fun u => K (f4_out u)) (fun v => r1 (f4_S1 v))  (fun v => r7 (f4_S7 v)) v := by kernel_rfl
theorem f4_L7_it {X : Type} (R_f7 : f7_R) (R_f13 : f13_R) (R_f8 : f8_R) (R_f14 : f14_R) (R_f15 : f15_R) (R_f16 : f16_R) (R_f9 : f9_R) (R_f17 : f17_R) (R_f18 : f18_R) (hR_f7 : AnsOk Try.prog 7 (f7_cOf R_f7)) (hR_f13 : AnsOk Try.prog 13 (f13_cOf R_f13)) (hR_f8 : AnsOk Try.prog 8 (f8_cOf R_f8)) (hR_f14 : AnsOk Try.prog 14 (f14_cOf R_f14)) (hR_f15 : AnsOk Try.prog 15 (f15_cOf R_f15)) (hR_f16 : AnsOk Try.prog 16 (f16_cOf R_f16)) (hR_f9 : AnsOk Try.prog 9 (f9_cOf R_f9)) (hR_f17 : AnsOk Try.prog 17 (f17_cOf R_f17)) (hR_f18 : AnsOk Try.prog 18 (f18_cOf R_f18)) (k : Nat) (K : Out → Option X) (r1 : St → Option X) : (fun v => iter (loopB (f4_cx R_f7 R_f13 R_f8 R_f14 R_f15 R_f16 R_f9 R_f17 R_f18 hR_f7 hR_f13 hR_f8 hR_f14 hR_f15 hR_f16 hR_f9 hR_f17 hR_f18) k [.r, .r, .r, .r, .l, .r, .b, .o, .r, .r, .l, .b, .r, .r, .r, .r, .r, .r, .b] (Try.f4.body.getD .skip) (retK (f4_cx R_f7 R_f13 R_f8 R_f14 R_f15 R_f16 R_f9 R_f17 R_f18 hR_f7 hR_f13 hR_f8 hR_f14 hR_f15 hR_f16 hR_f9 hR_f17 hR_f18) [] Try.f4.results.toList K) [r1]) k (f4_S7 v)) = iterV (f4_L7 R_f7 R_f13 R_f8 R_f14 R_f15 R_f16 R_f9 R_f17 R_f18 k (fun u => K (f4_out u)) (fun v => r1 (f4_S1 v))) k :=
  iter_map (fun r7 v => (f4_L7_ev R_f7 R_f13 R_f8 R_f14 R_f15 R_f16 R_f9 R_f17 R_f18 hR_f7 hR_f13 hR_f8 hR_f14 hR_f15 hR_f16 hR_f9 hR_f17 hR_f18 k K r1 r7 v).trans rfl) k
def f4_T6 {X : Type} (R_f7 : f7_R) (R_f13 : f13_R) (R_f8 : f8_R) (R_f14 : f14_R) (R_f15 : f15_R) (R_f16 : f16_R) (R_f9 : f9_R) (R_f17 : f17_R) (R_f18 : f18_R) (k : Nat) (K : Bool → Option X) (rec1 : (List CV) × Int × Int × Nat × Int × Nat × Int × Int × Bool × (List CV) × (List CV) → Option X)  (rec6 : Nat × Nat × (List CV) × Int × Int × Int × Int × Int × Int × Int × (List CV) × (List CV) × (List CV) × Nat × Int × Nat × Int × Int × Bool × (List CV) × (List CV) → Option X) (v19_246 : Nat × Nat × (List CV) × Int × Int × Int × Int × Int × Int × Int × (List CV) × (List CV) × (List CV) × Nat × Int × Nat × Int × Int × Bool × (List CV) × (List CV)) : Option X :=
(bif (decide (v19_246.2.2.2.2.2.2.1 < v19_246.2.2.2.2.2.1)) then
grd (decide (0 ≤ v19_246.2.2.2.2.2.2.1)) <|
grd (decide (v19_246.2.2.2.2.2.2.1 < (Nat.cast (v19_246.2.1) : Int))) <|
Option.bind (v19_246.2.2.2.2.2.2.2.2.2.2.2.2.1)[(0 + (Int.toNat v19_246.2.2.2.2.2.2.1))]? fun e261 =>
grd (CV.isI .u8 e261) <|
grd (decide (0 ≤ v19_246.2.2.2.2.2.2.1)) <|
grd (decide (v19_246.2.2.2.2.2.2.1 < (Nat.cast (v19_246.1) : Int))) <|
Option.bind (v19_246.2.2.2.2.2.2.2.2.2.2.2.1)[(0 + (Int.toNat v19_246.2.2.2.2.2.2.1))]? fun e262 =>
grd (CV.isI .u8 e262) <|
(bif ((bop .andNot .u8 (CV.toI e261) (CV.toI e262)) != 0) then
K (false)
else
(bif (v19_246.2.2.2.2.2.2.2.1 != 0) then
grd (decide (0 ≤ v19_246.2.2.2.2.2.2.1)) <|
grd (decide (v19_246.2.2.2.2.2.2.1 < (Nat.cast (v19_246.2.1) : Int))) <|
Option.bind (v19_246.2.2.2.2.2.2.2.2.2.2.2.2.1)[(0 + (Int.toNat v19_246.2.2.2.2.2.2.1))]? fun e263 =>
grd (CV.isI .u8 e263) <|
grd (decide (0 ≤ v19_246.2.2.2.2.2.2.1)) <|
grd (decide (v19_246.2.2.2.2.2.2.1 < (Nat.cast (v19_246.1) : Int))) <|
Option.bind (v19_246.2.2.2.2.2.2.2.2.2.2.2.1)[(0 + (Int.toNat v19_246.2.2.2.2.2.2.1))]? fun e264 =>
grd (CV.isI .u8 e264) <|
(bif ((CV.toI e263) != (CV.toI e264)) then
K (false)
else
f4_J3 R_f7 R_f13 R_f8 R_f14 R_f15 R_f16 R_f9 R_f17 R_f18 k K rec6 v19_246 (()))
else
f4_J3 R_f7 R_f13 R_f8 R_f14 R_f15 R_f16 R_f9 R_f17 R_f18 k K rec6 v19_246 (())))
else
rec1 (v19_246.2.2.1, v19_246.2.2.2.1, (IntKind.wrap .i64 (v19_246.2.2.2.2.1 + 1)), v19_246.2.2.2.2.2.2.2.2.2.2.2.2.2.1, v19_246.2.2.2.2.2.2.2.2.2.2.2.2.2.2.1, v19_246.2.2.2.2.2.2.2.2.2.2.2.2.2.2.2.1, v19_246.2.2.2.2.2.2.2.2.2.2.2.2.2.2.2.2.1, v19_246.2.2.2.2.2.2.2.2.2.2.2.2.2.2.2.2.2.1, v19_246.2.2.2.2.2.2.2.2.2.2.2.2.2.2.2.2.2.2.1, v19_246.2.2.2.2.2.2.2.2.2.2.2.2.2.2.2.2.2.2.2.1, v19_246.2.2.2.2.2.2.2.2.2.2.2.2.2.2.2.2.2.2.2.2))
def f4_L6 {X : Type} (R_f7 : f7_R) (R_f13 : f13_R) (R_f8 : f8_R) (R_f14 : f14_R) (R_f15 : f15_R) (R_f16 : f16_R) (R_f9 : f9_R) (R_f17 : f17_R) (R_f18 : f18_R) (k : Nat) (K : Bool → Option X) (rec1 : (List CV) × Int × Int × Nat × Int × Nat × Int × Int × Bool × (List CV) × (List CV) → Option X) (rec6 : Nat × Nat × (List CV) × Int × Int × Int × Int × Int × Int × Int × (List CV) × (List CV) × (List CV) × Nat × Int × Nat × Int × Int × Bool × (List CV) × (List CV) → Option X) (v : Nat × Nat × (List CV) × Int × Int × Int × Int × Int × Int × Int × (List CV) × (List CV) × (List CV) × Nat × Int × Nat × Int × Int × Bool × (List CV) × (List CV)) : Option X := f4_T6 R_f7 R_f13 R_f8 R_f14 R_f15 R_f16 R_f9 R_f17 R_f18 k K rec1  rec6 v
set_option maxRecDepth 100000 in
theorem f4_L6_ev {X : Type} (R_f7 : f7_R) (R_f13 : f13_R) (R_f8 : f8_R) (R_f14 : f14_R) (R_f15 : f15_R) (R_f16 : f16_R) (R_f9 : f9_R) (R_f17 : f17_R) (R_f18 : f18_R) (hR_f7 : AnsOk Try.prog 7 (f7_cOf R_f7)) (hR_f13 : AnsOk Try.prog 13 (f13_cOf R_f13)) (hR_f8 : AnsOk Try.prog 8 (f8_cOf R_f8)) (hR_f14 : AnsOk Try.prog 14 (f14_cOf R_f14)) (hR_f15 : AnsOk Try.prog 15 (f15_cOf R_f15)) (hR_f16 : AnsOk Try.prog 16 (f16_cOf R_f16)) (hR_f9 : AnsOk Try.prog 9 (f9_cOf R_f9)) (hR_f17 : AnsOk Try.prog 17 (f17_cOf R_f17)) (hR_f18 : AnsOk Try.prog 18 (f18_cOf R_f18)) (k : Nat) (K : Out → Option X) (r1 : St → Option X) (r6 : St → Option X) (v : Nat × Nat × (List CV) × Int × Int × Int × Int × Int × Int × Int × (List CV) × (List CV) × (List CV) × Nat × Int × Nat × Int × Int × Bool × (List CV) × (List CV)) : loopB (f4_cx R_f7 R_f13 R_f8 R_f14 R_f15 R_f16 R_f9 R_f17 R_f18 hR_f7 hR_f13 hR_f8 hR_f14 hR_f15 hR_f16 hR_f9 hR_f17 hR_f18) k [.r, .r, .r, .r, .l, .r, .b, .o, .r, .r, .l, .b, .r, .r, .r, .r, .r, .r, .b] (Try.f4.body.getD .skip) (retK (f4_cx R_f7 R_f13 R_f8 R_f14 R_f15 R_f16 R_f9 R_f17 R_f18 hR_f7 hR_f13 hR_f8 hR_f14 hR_f15 hR_f16 hR_f9 hR_f17 hR_f18) [] Try.f4.results.toList K) [r1] r6 (f4_S6 v) = f4_T6 R_f7 R_f13 R_f8 R_f14 R_f15 R_f16 R_f9 R_f17 R_f18 k (fun u => K (f4_out u)) (fun v => r1 (f4_S1 v))  (fun v => r6 (f4_S6 v)) v := by kernel_rfl
theorem f4_L6_it {X : Type} (R_f7 : f7_R) (R_f13 : f13_R) (R_f8 : f8_R) (R_f14 : f14_R) (R_f15 : f15_R) (R_f16 : f16_R) (R_f9 : f9_R) (R_f17 : f17_R) (R_f18 : f18_R) (hR_f7 : AnsOk Try.prog 7 (f7_cOf R_f7)) (hR_f13 : AnsOk Try.prog 13 (f13_cOf R_f13)) (hR_f8 : AnsOk Try.prog 8 (f8_cOf R_f8)) (hR_f14 : AnsOk Try.prog 14 (f14_cOf R_f14)) (hR_f15 : AnsOk Try.prog 15 (f15_cOf R_f15)) (hR_f16 : AnsOk Try.prog 16 (f16_cOf R_f16)) (hR_f9 : AnsOk Try.prog 9 (f9_cOf R_f9)) (hR_f17 : AnsOk Try.prog 17 (f17_cOf R_f17)) (hR_f18 : AnsOk Try.prog 18 (f18_cOf R_f18)) (k : Nat) (K : Out → Option X) (r1 : St → Option X) : (fun v => iter (loopB (f4_cx R_f7 R_f13 R_f8 R_f14 R_f15 R_f16 R_f9 R_f17 R_f18 hR_f7 hR_f13 hR_f8 hR_f14 hR_f15 hR_f16 hR_f9 hR_f17 hR_f18) k [.r, .r, .r, .r, .l, .r, .b, .o, .r, .r, .l, .b, .r, .r, .r, .r, .r, .r, .b] (Try.f4.body.getD .skip) (retK (f4_cx R_f7 R_f13 R_f8 R_f14 R_f15 R_f16 R_f9 R_f17 R_f18 hR_f7 hR_f13 hR_f8 hR_f14 hR_f15 hR_f16 hR_f9 hR_f17 hR_f18) [] Try.f4.results.toList K) [r1]) k (f4_S6 v)) = iterV (f4_L6 R_f7 R_f13 R_f8 R_f14 R_f15 R_f16 R_f9 R_f17 R_f18 k (fun u => K (f4_out u)) (fun v => r1 (f4_S1 v))) k :=
  iter_map (fun r6 v => (f4_L6_ev R_f7 R_f13 R_f8 R_f14 R_f15 R_f16 R_f9 R_f17 R_f18 hR_f7 hR_f13 hR_f8 hR_f14 hR_f15 hR_f16 hR_f9 hR_f17 hR_f18 k K r1 r6 v).trans rfl) k
def f4_T5 {X : Type} (R_f7 : f7_R) (R_f13 : f13_R) (R_f8 : f8_R) (R_f14 : f14_R) (R_f15 : f15_R) (R_f16 : f16_R) (R_f9 : f9_R) (R_f17 : f17_R) (R_f18 : f18_R) (k : Nat) (K : Bool → Option X) (rec1 : (List CV) × Int × Int × Nat × Int × Nat × Int × Int × Bool × (List CV) × (List CV) → Option X)  (rec5 : Nat × Int × Nat × (List CV) × Int × Int × Int × Int × Int × Int × Int × (List CV) × (List CV) × (List CV) × Nat × Int × Nat × Int × Int × Bool × (List CV) × (List CV) → Option X) (v19_202 : Nat × Int × Nat × (List CV) × Int × Int × Int × Int × Int × Int × Int × (List CV) × (List CV) × (List CV) × Nat × Int × Nat × Int × Int × Bool × (List CV) × (List CV)) : Option X :=
(bif (decide (v19_202.2.2.2.2.2.2.2.1 < v19_202.2.2.2.2.2.2.1)) then
grd (decide (0 ≤ v19_202.2.2.2.2.2.2.2.1)) <|
grd (decide (v19_202.2.2.2.2.2.2.2.1 < (Nat.cast (v19_202.2.2.1) : Int))) <|
Option.bind (v19_202.2.2.2.2.2.2.2.2.2.2.2.2.2.1)[(0 + (Int.toNat v19_202.2.2.2.2.2.2.2.1))]? fun e235 =>
grd (CV.isI .u8 e235) <|
grd (decide (0 ≤ v19_202.2.2.2.2.2.2.2.1)) <|
grd (decide (v19_202.2.2.2.2.2.2.2.1 < (Nat.cast (v19_202.1) : Int))) <|
Option.bind (v19_202.2.2.2.2.2.2.2.2.2.2.2.2.1)[(0 + (Int.toNat v19_202.2.2.2.2.2.2.2.1))]? fun e236 =>
grd (CV.isI .u8 e236) <|
(bif ((bop .andNot .u8 (CV.toI e235) (CV.toI e236)) != 0) then
K (false)
else
(bif (v19_202.2.1 != 0) then
(bif (v19_202.2.1 != 30) then
grd (decide (0 ≤ v19_202.2.2.2.2.2.2.2.1)) <|
grd (decide (v19_202.2.2.2.2.2.2.2.1 < (Nat.cast (v19_202.2.2.1) : Int))) <|
Option.bind (v19_202.2.2.2.2.2.2.2.2.2.2.2.2.2.1)[(0 + (Int.toNat v19_202.2.2.2.2.2.2.2.1))]? fun e237 =>
grd (CV.isI .u8 e237) <|
grd (decide (0 ≤ v19_202.2.2.2.2.2.2.2.1)) <|
grd (decide (v19_202.2.2.2.2.2.2.2.1 < (Nat.cast (v19_202.1) : Int))) <|
Option.bind (v19_202.2.2.2.2.2.2.2.2.2.2.2.2.1)[(0 + (Int.toNat v19_202.2.2.2.2.2.2.2.1))]? fun e238 =>
grd (CV.isI .u8 e238) <|
(bif ((CV.toI e237) != (CV.toI e238)) then
K (false)
else
(bif (v19_202.2.2.2.2.2.2.2.2.1 != 0) then
grd (decide (0 ≤ v19_202.2.2.2.2.2.2.2.1)) <|
grd (decide (v19_202.2.2.2.2.2.2.2.1 < (Nat.cast (v19_202.2.2.1) : Int))) <|
Option.bind (v19_202.2.2.2.2.2.2.2.2.2.2.2.2.2.1)[(0 + (Int.toNat v19_202.2.2.2.2.2.2.2.1))]? fun e239 =>
grd (CV.isI .u8 e239) <|
grd (decide (0 ≤ v19_202.2.2.2.2.2.2.2.1)) <|
grd (decide (v19_202.2.2.2.2.2.2.2.1 < (Nat.cast (v19_202.1) : Int))) <|
Option.bind (v19_202.2.2.2.2.2.2.2.2.2.2.2.2.1)[(0 + (Int.toNat v19_202.2.2.2.2.2.2.2.1))]? fun e240 =>
grd (CV.isI .u8 e240) <|
(bif ((CV.toI e239) != (CV.toI e240)) then
K (false)
else
f4_J2 R_f7 R_f13 R_f8 R_f14 R_f15 R_f16 R_f9 R_f17 R_f18 k K rec5 v19_202 (()))
else
f4_J2 R_f7 R_f13 R_f8 R_f14 R_f15 R_f16 R_f9 R_f17 R_f18 k K rec5 v19_202 (())))
else
(bif (v19_202.2.2.2.2.2.2.2.2.1 != 0) then
grd (decide (0 ≤ v19_202.2.2.2.2.2.2.2.1)) <|
grd (decide (v19_202.2.2.2.2.2.2.2.1 < (Nat.cast (v19_202.2.2.1) : Int))) <|
Option.bind (v19_202.2.2.2.2.2.2.2.2.2.2.2.2.2.1)[(0 + (Int.toNat v19_202.2.2.2.2.2.2.2.1))]? fun e241 =>
grd (CV.isI .u8 e241) <|
grd (decide (0 ≤ v19_202.2.2.2.2.2.2.2.1)) <|
grd (decide (v19_202.2.2.2.2.2.2.2.1 < (Nat.cast (v19_202.1) : Int))) <|
Option.bind (v19_202.2.2.2.2.2.2.2.2.2.2.2.2.1)[(0 + (Int.toNat v19_202.2.2.2.2.2.2.2.1))]? fun e242 =>
grd (CV.isI .u8 e242) <|
(bif ((CV.toI e241) != (CV.toI e242)) then
K (false)
else
f4_J2 R_f7 R_f13 R_f8 R_f14 R_f15 R_f16 R_f9 R_f17 R_f18 k K rec5 v19_202 (()))
else
f4_J2 R_f7 R_f13 R_f8 R_f14 R_f15 R_f16 R_f9 R_f17 R_f18 k K rec5 v19_202 (())))
else
(bif (v19_202.2.2.2.2.2.2.2.2.1 != 0) then
grd (decide (0 ≤ v19_202.2.2.2.2.2.2.2.1)) <|
grd (decide (v19_202.2.2.2.2.2.2.2.1 < (Nat.cast (v19_202.2.2.1) : Int))) <|
Option.bind (v19_202.2.2.2.2.2.2.2.2.2.2.2.2.2.1)[(0 + (Int.toNat v19_202.2.2.2.2.2.2.2.1))]? fun e243 =>
grd (CV.isI .u8 e243) <|
grd (decide (0 ≤ v19_202.2.2.2.2.2.2.2.1)) <|
grd (decide (v19_202.2.2.2.2.2.2.2.1 < (Nat.cast (v19_202.1) : Int))) <|
Option.bind (v19_202.2.2.2.2.2.2.2.2.2.2.2.2.1)[(0 + (Int.toNat v19_202.2.2.2.2.2.2.2.1))]? fun e244 =>
grd (CV.isI .u8 e244) <|
(bif ((CV.toI e243) != (CV.toI e244)) then
K (false)
else
f4_J2 R_f7 R_f13 R_f8 R_f14 R_f15 R_f16 R_f9 R_f17 R_f18 k K rec5 v19_202 (()))
else
f4_J2 R_f7 R_f13 R_f8 R_f14 R_f15 R_f16 R_f9 R_f17 R_f18 k K rec5 v19_202 (()))))
else
rec1 (v19_202.2.2.2.1, v19_202.2.2.2.2.1, (IntKind.wrap .i64 (v19_202.2.2.2.2.2.1 + 1)), v19_202.2.2.2.2.2.2.2.2.2.2.2.2.2.2.1, v19_202.2.2.2.2.2.2.2.2.2.2.2.2.2.2.2.1, v19_202.2.2.2.2.2.2.2.2.2.2.2.2.2.2.2.2.1, v19_202.2.2.2.2.2.2.2.2.2.2.2.2.2.2.2.2.2.1, v19_202.2.2.2.2.2.2.2.2.2.2.2.2.2.2.2.2.2.2.1, v19_202.2.2.2.2.2.2.2.2.2.2.2.2.2.2.2.2.2.2.2.1, v19_202.2.2.2.2.2.2.2.2.2.2.2.2.2.2.2.2.2.2.2.2.1, v19_202.2.2.2.2.2.2.2.2.2.2.2.2.2.2.2.2.2.2.2.2.2))
def f4_L5 {X : Type} (R_f7 : f7_R) (R_f13 : f13_R) (R_f8 : f8_R) (R_f14 : f14_R) (R_f15 : f15_R) (R_f16 : f16_R) (R_f9 : f9_R) (R_f17 : f17_R) (R_f18 : f18_R) (k : Nat) (K : Bool → Option X) (rec1 : (List CV) × Int × Int × Nat × Int × Nat × Int × Int × Bool × (List CV) × (List CV) → Option X) (rec5 : Nat × Int × Nat × (List CV) × Int × Int × Int × Int × Int × Int × Int × (List CV) × (List CV) × (List CV) × Nat × Int × Nat × Int × Int × Bool × (List CV) × (List CV) → Option X) (v : Nat × Int × Nat × (List CV) × Int × Int × Int × Int × Int × Int × Int × (List CV) × (List CV) × (List CV) × Nat × Int × Nat × Int × Int × Bool × (List CV) × (List CV)) : Option X := f4_T5 R_f7 R_f13 R_f8 R_f14 R_f15 R_f16 R_f9 R_f17 R_f18 k K rec1  rec5 v
set_option maxRecDepth 100000 in
theorem f4_L5_ev {X : Type} (R_f7 : f7_R) (R_f13 : f13_R) (R_f8 : f8_R) (R_f14 : f14_R) (R_f15 : f15_R) (R_f16 : f16_R) (R_f9 : f9_R) (R_f17 : f17_R) (R_f18 : f18_R) (hR_f7 : AnsOk Try.prog 7 (f7_cOf R_f7)) (hR_f13 : AnsOk Try.prog 13 (f13_cOf R_f13)) (hR_f8 : AnsOk Try.prog 8 (f8_cOf R_f8)) (hR_f14 : AnsOk Try.prog 14 (f14_cOf R_f14)) (hR_f15 : AnsOk Try.prog 15 (f15_cOf R_f15)) (hR_f16 : AnsOk Try.prog 16 (f16_cOf R_f16)) (hR_f9 : AnsOk Try.prog 9 (f9_cOf R_f9)) (hR_f17 : AnsOk Try.prog 17 (f17_cOf R_f17)) (hR_f18 : AnsOk Try.prog 18 (f18_cOf R_f18)) (k : Nat) (K : Out → Option X) (r1 : St → Option X) (r5 : St → Option X) (v : Nat × Int × Nat × (List CV) × Int × Int × Int × Int × Int × Int × Int × (List CV) × (List CV) × (List CV) × Nat × Int × Nat × Int × Int × Bool × (List CV) × (List CV)) : loopB (f4_cx R_f7 R_f13 R_f8 R_f14 R_f15 R_f16 R_f9 R_f17 R_f18 hR_f7 hR_f13 hR_f8 hR_f14 hR_f15 hR_f16 hR_f9 hR_f17 hR_f18) k [.r, .r, .r, .r, .l, .r, .b, .o, .r, .r, .l, .b, .r, .r, .r, .r, .r, .r, .b] (Try.f4.body.getD .skip) (retK (f4_cx R_f7 R_f13 R_f8 R_f14 R_f15 R_f16 R_f9 R_f17 R_f18 hR_f7 hR_f13 hR_f8 hR_f14 hR_f15 hR_f16 hR_f9 hR_f17 hR_f18) [] Try.f4.results.toList K) [r1] r5 (f4_S5 v) = f4_T5 R_f7 R_f13 R_f8 R_f14 R_f15 R_f16 R_f9 R_f17 R_f18 k (fun u => K (f4_out u)) (fun v => r1 (f4_S1 v))  (fun v => r5 (f4_S5 v)) v := by kernel_rfl
theorem f4_L5_it {X : Type} (R_f7 : f7_R) (R_f13 : f13_R) (R_f8 : f8_R) (R_f14 : f14_R) (R_f15 : f15_R) (R_f16 : f16_R) (R_f9 : f9_R) (R_f17 : f17_R) (R_f18 : f18_R) (hR_f7 : AnsOk Try.prog 7 (f7_cOf R_f7)) (hR_f13 : AnsOk Try.prog 13 (f13_cOf R_f13)) (hR_f8 : AnsOk Try.prog 8 (f8_cOf R_f8)) (hR_f14 : AnsOk Try.prog 14 (f14_cOf R_f14)) (hR_f15 : AnsOk Try.prog 15 (f15_cOf R_f15)) (hR_f16 : AnsOk Try.prog 16 (f16_cOf R_f16)) (hR_f9 : AnsOk Try.prog 9 (f9_cOf R_f9)) (hR_f17 : AnsOk Try.prog 17 (f17_cOf R_f17)) (hR_f18 : AnsOk Try.prog 18 (f18_cOf R_f18)) (k : Nat) (K : Out → Option X) (r1 : St → Option X) : (fun v => iter (loopB (f4_cx R_f7 R_f13 R_f8 R_f14 R_f15 R_f16 R_f9 R_f17 R_f18 hR_f7 hR_f13 hR_f8 hR_f14 hR_f15 hR_f16 hR_f9 hR_f17 hR_f18) k [.r, .r, .r, .r, .l, .r, .b, .o, .r, .r, .l, .b, .r, .r, .r, .r, .r, .r, .b] (Try.f4.body.getD .skip) (retK (f4_cx R_f7 R_f13 R_f8 R_f14 R_f15 R_f16 R_f9 R_f17 R_f18 hR_f7 hR_f13 hR_f8 hR_f14 hR_f15 hR_f16 hR_f9 hR_f17 hR_f18) [] Try.f4.results.toList K) [r1]) k (f4_S5 v)) = iterV (f4_L5 R_f7 R_f13 R_f8 R_f14 R_f15 R_f16 R_f9 R_f17 R_f18 k (fun u => K (f4_out u)) (fun v => r1 (f4_S1 v))) k :=
  iter_map (fun r5 v => (f4_L5_ev R_f7 R_f13 R_f8 R_f14 R_f15 R_f16 R_f9 R_f17 R_f18 hR_f7 hR_f13 hR_f8 hR_f14 hR_f15 hR_f16 hR_f9 hR_f17 hR_f18 k K r1 r5 v).trans rfl) k
def f4_T4 {X : Type} (R_f7 : f7_R) (R_f13 : f13_R) (R_f8 : f8_R) (R_f14 : f14_R) (R_f15 : f15_R) (R_f16 : f16_R) (R_f9 : f9_R) (R_f17 : f17_R) (R_f18 : f18_R) (k : Nat) (K : Bool → Option X) (rec1 : (List CV) × Int × Int × Nat × Int × Nat × Int × Int × Bool × (List CV) × (List CV) → Option X) (loop5 : Nat × Int × Nat × (List CV) × Int × Int × Int × Int × Int × Int × Int × (List CV) × (List CV) × (List CV) × Nat × Int × Nat × Int × Int × Bool × (List CV) × (List CV) → Option X) (rec4 : Nat × Nat × Int × (List CV) × Int × Int × Int × Int × Int × Int × Int × (List CV) × (List CV) × (List CV) × Nat × Int × Nat × Int × Int × Bool × (List CV) × (List CV) → Option X) (v26_196 : Nat × Nat × Int × (List CV) × Int × Int × Int × Int × Int × Int × Int × (List CV) × (List CV) × (List CV) × Nat × Int × Nat × Int × Int × Bool × (List CV) × (List CV)) : Option X :=
(bif (decide (v26_196.2.2.2.2.2.2.2.1 < v26_196.2.2.2.2.2.2.1)) then
grd (decide (0 ≤ v26_196.2.2.2.2.2.2.2.1)) <|
grd (decide (v26_196.2.2.2.2.2.2.2.1 < (Nat.cast (v26_196.2.1) : Int))) <|
Option.bind (v26_196.2.2.2.2.2.2.2.2.2.2.2.2.2.1)[(0 + (Int.toNat v26_196.2.2.2.2.2.2.2.1))]? fun e201 =>
grd (CV.isI .u8 e201) <|
grd (decide (0 ≤ v26_196.2.2.2.2.2.2.2.1)) <|
grd (decide (v26_196.2.2.2.2.2.2.2.1 < (Nat.cast (v26_196.2.1) : Int))) <|
grd (decide ((0 + (Int.toNat v26_196.2.2.2.2.2.2.2.1)) < (List.length v26_196.2.2.2.2.2.2.2.2.2.2.2.2.2.1))) <|
rec4 (v26_196.1, v26_196.2.1, v26_196.2.2.1, v26_196.2.2.2.1, v26_196.2.2.2.2.1, v26_196.2.2.2.2.2.1, v26_196.2.2.2.2.2.2.1, (IntKind.wrap .i64 (v26_196.2.2.2.2.2.2.2.1 + 1)), v26_196.2.2.2.2.2.2.2.2.1, v26_196.2.2.2.2.2.2.2.2.2.1, v26_196.2.2.2.2.2.2.2.2.2.2.1, v26_196.2.2.2.2.2.2.2.2.2.2.2.1, v26_196.2.2.2.2.2.2.2.2.2.2.2.2.1, (List.set v26_196.2.2.2.2.2.2.2.2.2.2.2.2.2.1 (0 + (Int.toNat v26_196.2.2.2.2.2.2.2.1)) (CV.int .u8 (IntKind.wrap .u8 ((CV.toI e201) + 1)))), v26_196.2.2.2.2.2.2.2.2.2.2.2.2.2.2.1, v26_196.2.2.2.2.2.2.2.2.2.2.2.2.2.2.2.1, v26_196.2.2.2.2.2.2.2.2.2.2.2.2.2.2.2.2.1, v26_196.2.2.2.2.2.2.2.2.2.2.2.2.2.2.2.2.2.1, v26_196.2.2.2.2.2.2.2.2.2.2.2.2.2.2.2.2.2.2.1, v26_196.2.2.2.2.2.2.2.2.2.2.2.2.2.2.2.2.2.2.2.1, v26_196.2.2.2.2.2.2.2.2.2.2.2.2.2.2.2.2.2.2.2.2.1, v26_196.2.2.2.2.2.2.2.2.2.2.2.2.2.2.2.2.2.2.2.2.2)
else
R_f14 _ (fun u202 =>
loop5 (v26_196.1, v26_196.2.2.1, u202.1, v26_196.2.2.2.1, v26_196.2.2.2.2.1, v26_196.2.2.2.2.2.1, (Nat.cast (v26_196.1) : Int), 0, v26_196.2.2.2.2.2.2.2.2.1, v26_196.2.2.2.2.2.2.2.2.2.1, v26_196.2.2.2.2.2.2.2.2.2.2.1, v26_196.2.2.2.2.2.2.2.2.2.2.2.1, v26_196.2.2.2.2.2.2.2.2.2.2.2.2.1, u202.2.2.2.2.2.2.2.2.2, u202.2.1, u202.2.2.1, u202.2.2.2.1, u202.2.2.2.2.1, u202.2.2.2.2.2.1, u202.2.2.2.2.2.2.1, u202.2.2.2.2.2.2.2.1, u202.2.2.2.2.2.2.2.2.1)) (v26_196.2.2.2.2.2.2.2.2.2.2.2.2.2.2.1) (v26_196.2.2.2.2.2.2.2.2.2.2.2.2.2.2.2.1) (v26_196.2.2.2.2.2.2.2.2.2.2.2.2.2.2.2.2.1) (v26_196.2.2.2.2.2.2.2.2.2.2.2.2.2.2.2.2.2.1) (v26_196.2.2.2.2.2.2.2.2.2.2.2.2.2.2.2.2.2.2.1) (v26_196.2.2.2.2.2.2.2.2.2.2.2.2.2.2.2.2.2.2.2.1) (v26_196.2.2.2.2.2.2.2.2.2.2.2.2.2.2.2.2.2.2.2.2.1) (v26_196.2.2.2.2.2.2.2.2.2.2.2.2.2.2.2.2.2.2.2.2.2))
def f4_L4 {X : Type} (R_f7 : f7_R) (R_f13 : f13_R) (R_f8 : f8_R) (R_f14 : f14_R) (R_f15 : f15_R) (R_f16 : f16_R) (R_f9 : f9_R) (R_f17 : f17_R) (R_f18 : f18_R) (k : Nat) (K : Bool → Option X) (rec1 : (List CV) × Int × Int × Nat × Int × Nat × Int × Int × Bool × (List CV) × (List CV) → Option X) (rec4 : Nat × Nat × Int × (List CV) × Int × Int × Int × Int × Int × Int × Int × (List CV) × (List CV) × (List CV) × Nat × Int × Nat × Int × Int × Bool × (List CV) × (List CV) → Option X) (v : Nat × Nat × Int × (List CV) × Int × Int × Int × Int × Int × Int × Int × (List CV) × (List CV) × (List CV) × Nat × Int × Nat × Int × Int × Bool × (List CV) × (List CV)) : Option X := f4_T4 R_f7 R_f13 R_f8 R_f14 R_f15 R_f16 R_f9 R_f17 R_f18 k K rec1 (iterV (f4_L5 R_f7 R_f13 R_f8 R_f14 R_f15 R_f16 R_f9 R_f17 R_f18 k K rec1) k) rec4 v
set_option maxRecDepth 100000 in
theorem f4_L4_ev {X : Type} (R_f7 : f7_R) (R_f13 : f13_R) (R_f8 : f8_R) (R_f14 : f14_R) (R_f15 : f15_R) (R_f16 : f16_R) (R_f9 : f9_R) (R_f17 : f17_R) (R_f18 : f18_R) (hR_f7 : AnsOk Try.prog 7 (f7_cOf R_f7)) (hR_f13 : AnsOk Try.prog 13 (f13_cOf R_f13)) (hR_f8 : AnsOk Try.prog 8 (f8_cOf R_f8)) (hR_f14 : AnsOk Try.prog 14 (f14_cOf R_f14)) (hR_f15 : AnsOk Try.prog 15 (f15_cOf R_f15)) (hR_f16 : AnsOk Try.prog 16 (f16_cOf R_f16)) (hR_f9 : AnsOk Try.prog 9 (f9_cOf R_f9)) (hR_f17 : AnsOk Try.prog 17 (f17_cOf R_f17)) (hR_f18 : AnsOk Try.prog 18 (f18_cOf R_f18)) (k : Nat) (K : Out → Option X) (r1 : St → Option X) (r4 : St → Option X) (v : Nat × Nat × Int × (List CV) × Int × Int × Int × Int × Int × Int × Int × (List CV) × (List CV) × (List CV) × Nat × Int × Nat × Int × Int × Bool × (List CV) × (List CV)) : loopB (f4_cx R_f7 R_f13 R_f8 R_f14 R_f15 R_f16 R_f9 R_f17 R_f18 hR_f7 hR_f13 hR_f8 hR_f14 hR_f15 hR_f16 hR_f9 hR_f17 hR_f18) k [.r, .r, .r, .r, .l, .r, .b, .o, .r, .r, .l, .b, .r, .r, .r, .l, .r, .b, .r, .e, .r, .t, .r, .l, .r, .b] (Try.f4.body.getD .skip) (retK (f4_cx R_f7 R_f13 R_f8 R_f14 R_f15 R_f16 R_f9 R_f17 R_f18 hR_f7 hR_f13 hR_f8 hR_f14 hR_f15 hR_f16 hR_f9 hR_f17 hR_f18) [] Try.f4.results.toList K) [r1] r4 (f4_S4 v) = f4_T4 R_f7 R_f13 R_f8 R_f14 R_f15 R_f16 R_f9 R_f17 R_f18 k (fun u => K (f4_out u)) (fun v => r1 (f4_S1 v)) (fun v => iter (loopB (f4_cx R_f7 R_f13 R_f8 R_f14 R_f15 R_f16 R_f9 R_f17 R_f18 hR_f7 hR_f13 hR_f8 hR_f14 hR_f15 hR_f16 hR_f9 hR_f17 hR_f18) k [.r, .r, .r, .r, .l, .r, .b, .o, .r, .r, .l, .b, .r, .r, .r, .r, .r, .r, .b] (Try.f4.body.getD .skip) (retK (f4_cx R_f7 R_f13 R_f8 R_f14 R_f15 R_f16 R_f9 R_f17 R_f18 hR_f7 hR_f13 hR_f8 hR_f14 hR_f15 hR_f16 hR_f9 hR_f17 hR_f18) [] Try.f4.results.toList K) [r1]) k (f4_S5 v)) (fun v => r4 (f4_S4 v)) v := by kernel_rfl
theorem f4_L4_it {X : Type} (R_f7 : f7_R) (R_f13 : f13_R) (R_f8 : f8_R) (R_f14 : f14_R) (R_f15 : f15_R) (R_f16 : f16_R) (R_f9 : f9_R) (R_f17 : f17_R) (R_f18 : f18_R) (hR_f7 : AnsOk Try.prog 7 (f7_cOf R_f7)) (hR_f13 : AnsOk Try.prog 13 (f13_cOf R_f13)) (hR_f8 : AnsOk Try.prog 8 (f8_cOf R_f8)) (hR_f14 : AnsOk Try.prog 14 (f14_cOf R_f14)) (hR_f15 : AnsOk Try.prog 15 (f15_cOf R_f15)) (hR_f16 : AnsOk Try.prog 16 (f16_cOf R_f16)) (hR_f9 : AnsOk Try.prog 9 (f9_cOf R_f9)) (hR_f17 : AnsOk Try.prog 17 (f17_cOf R_f17)) (hR_f18 : AnsOk Try.prog 18 (f18_cOf R_f18)) (k : Nat) (K : Out → Option X) (r1 : St → Option X) : (fun v => iter (loopB (f4_cx R_f7 R_f13 R_f8 R_f14 R_f15 R_f16 R_f9 R_f17 R_f18 hR_f7 hR_f13 hR_f8 hR_f14 hR_f15 hR_f16 hR_f9 hR_f17 hR_f18) k [.r, .r, .r, .r, .l, .r, .b, .o, .r, .r, .l, .b, .r, .r, .r, .l, .r, .b, .r, .e, .r, .t, .r, .l, .r, .b] (Try.f4.body.getD .skip) (retK (f4_cx R_f7 R_f13 R_f8 R_f14 R_f15 R_f16 R_f9 R_f17 R_f18 hR_f7 hR_f13 hR_f8 hR_f14 hR_f15 hR_f16 hR_f9 hR_f17 hR_f18) [] Try.f4.results.toList K) [r1]) k (f4_S4 v)) = iterV (f4_L4 R_f7 R_f13 R_f8 R_f14 R_f15 R_f16 R_f9 R_f17 R_f18 k (fun u => K (f4_out u)) (fun v => r1 (f4_S1 v))) k :=
  iter_map (fun r4 v => (f4_L4_ev R_f7 R_f13 R_f8 R_f14 R_f15 R_f16 R_f9 R_f17 R_f18 hR_f7 hR_f13 hR_f8 hR_f14 hR_f15 hR_f16 hR_f9 hR_f17 hR_f18 k K r1 r4 v).trans (by rw [f4_L5_it R_f7 R_f13 R_f8 R_f14 R_f15 R_f16 R_f9 R_f17 R_f18 hR_f7 hR_f13 hR_f8 hR_f14 hR_f15 hR_f16 hR_f9 hR_f17 hR_f18 k K r1]; rfl)) k
def f4_T3 {X : Type} (R_f7 : f7_R) (R_f13 : f13_R) (R_f8 : f8_R) (R_f14 : f14_R) (R_f15 : f15_R) (R_f16 : f16_R) (R_f9 : f9_R) (R_f17 : f17_R) (R_f18 : f18_R) (k : Nat) (K : Bool → Option X) (rec1 : (List CV) × Int × Int × Nat × Int × Nat × Int × Int × Bool × (List CV) × (List CV) → Option X)  (rec3 : Nat × Int × Nat × (List CV) × Int × Int × Int × Int × Int × Int × Int × (List CV) × (List CV) × (List CV) × Nat × Int × Nat × Int × Int × Bool × (List CV) × (List CV) → Option X) (v19_153 : Nat × Int × Nat × (List CV) × Int × Int × Int × Int × Int × Int × Int × (List CV) × (List CV) × (List CV) × Nat × Int × Nat × Int × Int × Bool × (List CV) × (List CV)) : Option X :=
(bif (decide (v19_153.2.2.2.2.2.2.2.1 < v19_153.2.2.2.2.2.2.1)) then
grd (decide (0 ≤ v19_153.2.2.2.2.2.2.2.1)) <|
grd (decide (v19_153.2.2.2.2.2.2.2.1 < (Nat.cast (v19_153.2.2.1) : Int))) <|
Option.bind (v19_153.2.2.2.2.2.2.2.2.2.2.2.2.2.1)[(0 + (Int.toNat v19_153.2.2.2.2.2.2.2.1))]? fun e186 =>
grd (CV.isI .u8 e186) <|
grd (decide (0 ≤ v19_153.2.2.2.2.2.2.2.1)) <|
grd (decide (v19_153.2.2.2.2.2.2.2.1 < (Nat.cast (v19_153.1) : Int))) <|
Option.bind (v19_153.2.2.2.2.2.2.2.2.2.2.2.2.1)[(0 + (Int.toNat v19_153.2.2.2.2.2.2.2.1))]? fun e187 =>
grd (CV.isI .u8 e187) <|
(bif ((bop .andNot .u8 (CV.toI e186) (CV.toI e187)) != 0) then
K (false)
else
(bif (v19_153.2.1 != 0) then
(bif (v19_153.2.1 != 30) then
grd (decide (0 ≤ v19_153.2.2.2.2.2.2.2.1)) <|
grd (decide (v19_153.2.2.2.2.2.2.2.1 < (Nat.cast (v19_153.2.2.1) : Int))) <|
Option.bind (v19_153.2.2.2.2.2.2.2.2.2.2.2.2.2.1)[(0 + (Int.toNat v19_153.2.2.2.2.2.2.2.1))]? fun e188 =>
grd (CV.isI .u8 e188) <|
grd (decide (0 ≤ v19_153.2.2.2.2.2.2.2.1)) <|
grd (decide (v19_153.2.2.2.2.2.2.2.1 < (Nat.cast (v19_153.1) : Int))) <|
Option.bind (v19_153.2.2.2.2.2.2.2.2.2.2.2.2.1)[(0 + (Int.toNat v19_153.2.2.2.2.2.2.2.1))]? fun e189 =>
grd (CV.isI .u8 e189) <|
(bif ((CV.toI e188) != (CV.toI e189)) then
K (false)
else
(bif (v19_153.2.2.2.2.2.2.2.2.1 != 0) then
grd (decide (0 ≤ v19_153.2.2.2.2.2.2.2.1)) <|
grd (decide (v19_153.2.2.2.2.2.2.2.1 < (Nat.cast (v19_153.2.2.1) : Int))) <|
Option.bind (v19_153.2.2.2.2.2.2.2.2.2.2.2.2.2.1)[(0 + (Int.toNat v19_153.2.2.2.2.2.2.2.1))]? fun e190 =>
grd (CV.isI .u8 e190) <|
grd (decide (0 ≤ v19_153.2.2.2.2.2.2.2.1)) <|
grd (decide (v19_153.2.2.2.2.2.2.2.1 < (Nat.cast (v19_153.1) : Int))) <|
Option.bind (v19_153.2.2.2.2.2.2.2.2.2.2.2.2.1)[(0 + (Int.toNat v19_153.2.2.2.2.2.2.2.1))]? fun e191 =>
grd (CV.isI .u8 e191) <|
(bif ((CV.toI e190) != (CV.toI e191)) then
K (false)
else
f4_J1 R_f7 R_f13 R_f8 R_f14 R_f15 R_f16 R_f9 R_f17 R_f18 k K rec3 v19_153 (()))
else
f4_J1 R_f7 R_f13 R_f8 R_f14 R_f15 R_f16 R_f9 R_f17 R_f18 k K rec3 v19_153 (())))
else
(bif (v19_153.2.2.2.2.2.2.2.2.1 != 0) then
grd (decide (0 ≤ v19_153.2.2.2.2.2.2.2.1)) <|
grd (decide (v19_153.2.2.2.2.2.2.2.1 < (Nat.cast (v19_153.2.2.1) : Int))) <|
Option.bind (v19_153.2.2.2.2.2.2.2.2.2.2.2.2.2.1)[(0 + (Int.toNat v19_153.2.2.2.2.2.2.2.1))]? fun e192 =>
grd (CV.isI .u8 e192) <|
grd (decide (0 ≤ v19_153.2.2.2.2.2.2.2.1)) <|
grd (decide (v19_153.2.2.2.2.2.2.2.1 < (Nat.cast (v19_153.1) : Int))) <|
Option.bind (v19_153.2.2.2.2.2.2.2.2.2.2.2.2.1)[(0 + (Int.toNat v19_153.2.2.2.2.2.2.2.1))]? fun e193 =>
grd (CV.isI .u8 e193) <|
(bif ((CV.toI e192) != (CV.toI e193)) then
K (false)
else
f4_J1 R_f7 R_f13 R_f8 R_f14 R_f15 R_f16 R_f9 R_f17 R_f18 k K rec3 v19_153 (()))
else
f4_J1 R_f7 R_f13 R_f8 R_f14 R_f15 R_f16 R_f9 R_f17 R_f18 k K rec3 v19_153 (())))
else
(bif (v19_153.2.2.2.2.2.2.2.2.1 != 0) then
grd (decide (0 ≤ v19_153.2.2.2.2.2.2.2.1)) <|
grd (decide (v19_153.2.2.2.2.2.2.2.1 < (Nat.cast (v19_153.2.2.1) : Int))) <|
Option.bind (v19_153.2.2.2.2.2.2.2.2.2.2.2.2.2.1)[(0 + (Int.toNat v19_153.2.2.2.2.2.2.2.1))]? fun e194 =>
grd (CV.isI .u8 e194) <|
grd (decide (0 ≤ v19_153.2.2.2.2.2.2.2.1)) <|
grd (decide (v19_153.2.2.2.2.2.2.2.1 < (Nat.cast (v19_153.1) : Int))) <|
Option.bind (v19_153.2.2.2.2.2.2.2.2.2.2.2.2.1)[(0 + (Int.toNat v19_153.2.2.2.2.2.2.2.1))]? fun e195 =>
grd (CV.isI .u8 e195) <|
(bif ((CV.toI e194) != (CV.toI e195)) then
K (false)
else
f4_J1 R_f7 R_f13 R_f8 R_f14 R_f15 R_f16 R_f9 R_f17 R_f18 k K rec3 v19_153 (()))
else
f4_J1 R_f7 R_f13 R_f8 R_f14 R_f15 R_f16 R_f9 R_f17 R_f18 k K rec3 v19_153 (()))))
else
rec1 (v19_153.2.2.2.1, v19_153.2.2.2.2.1, (IntKind.wrap .i64 (v19_153.2.2.2.2.2.1 + 1)), v19_153.2.2.2.2.2.2.2.2.2.2.2.2.2.2.1, v19_153.2.2.2.2.2.2.2.2.2.2.2.2.2.2.2.1, v19_153.2.2.2.2.2.2.2.2.2.2.2.2.2.2.2.2.1, v19_153.2.2.2.2.2.2.2.2.2.2.2.2.2.2.2.2.2.1, v19_153.2.2.2.2.2.2.2.2.2.2.2.2.2.2.2.2.2.2.1, v19_153.2.2.2.2.2.2.2.2.2.2.2.2.2.2.2.2.2.2.2.1, v19_153.2.2.2.2.2.2.2.2.2.2.2.2.2.2.2.2.2.2.2.2.1, v19_153.2.2.2.2.2.2.2.2.2.2.2.2.2.2.2.2.2.2.2.2.2))
def f4_L3 {X : Type} (R_f7 : f7_R) (R_f13 : f13_R) (R_f8 : f8_R) (R_f14 : f14_R) (R_f15 : f15_R) (R_f16 : f16_R) (R_f9 : f9_R) (R_f17 : f17_R) (R_f18 : f18_R) (k : Nat) (K : Bool → Option X) (rec1 : (List CV) × Int × Int × Nat × Int × Nat × Int × Int × Bool × (List CV) × (List CV) → Option X) (rec3 : Nat × Int × Nat × (List CV) × Int × Int × Int × Int × Int × Int × Int × (List CV) × (List CV) × (List CV) × Nat × Int × Nat × Int × Int × Bool × (List CV) × (List CV) → Option X) (v : Nat × Int × Nat × (List CV) × Int × Int × Int × Int × Int × Int × Int × (List CV) × (List CV) × (List CV) × Nat × Int × Nat × Int × Int × Bool × (List CV) × (List CV)) : Option X := f4_T3 R_f7 R_f13 R_f8 R_f14 R_f15 R_f16 R_f9 R_f17 R_f18 k K rec1  rec3 v
set_option maxRecDepth 100000 in
theorem f4_L3_ev {X : Type} (R_f7 : f7_R) (R_f13 : f13_R) (R_f8 : f8_R) (R_f14 : f14_R) (R_f15 : f15_R) (R_f16 : f16_R) (R_f9 : f9_R) (R_f17 : f17_R) (R_f18 : f18_R) (hR_f7 : AnsOk Try.prog 7 (f7_cOf R_f7)) (hR_f13 : AnsOk Try.prog 13 (f13_cOf R_f13)) (hR_f8 : AnsOk Try.prog 8 (f8_cOf R_f8)) (hR_f14 : AnsOk Try.prog 14 (f14_cOf R_f14)) (hR_f15 : AnsOk Try.prog 15 (f15_cOf R_f15)) (hR_f16 : AnsOk Try.prog 16 (f16_cOf R_f16)) (hR_f9 : AnsOk Try.prog 9 (f9_cOf R_f9)) (hR_f17 : AnsOk Try.prog 17 (f17_cOf R_f17)) (hR_f18 : AnsOk Try.prog 18 (f18_cOf R_f18)) (k : Nat) (K : Out → Option X) (r1 : St → Option X) (r3 : St → Option X) (v : Nat × Int × Nat × (List CV) × Int × Int × Int × Int × Int × Int × Int × (List CV) × (List CV) × (List CV) × Nat × Int × Nat × Int × Int × Bool × (List CV) × (List CV)) : loopB (f4_cx R_f7 R_f13 R_f8 R_f14 R_f15 R_f16 R_f9 R_f17 R_f18 hR_f7 hR_f13 hR_f8 hR_f14 hR_f15 hR_f16 hR_f9 hR_f17 hR_f18) k [.r, .r, .r, .r, .l, .r, .b, .o, .r, .r, .l, .b, .r, .r, .r, .r, .r, .r, .b] (Try.f4.body.getD .skip) (retK (f4_cx R_f7 R_f13 R_f8 R_f14 R_f15 R_f16 R_f9 R_f17 R_f18 hR_f7 hR_f13 hR_f8 hR_f14 hR_f15 hR_f16 hR_f9 hR_f17 hR_f18) [] Try.f4.results.toList K) [r1] r3 (f4_S3 v) = f4_T3 R_f7 R_f13 R_f8 R_f14 R_f15 R_f16 R_f9 R_f17 R_f18 k (fun u => K (f4_out u)) (fun v => r1 (f4_S1 v))  (fun v => r3 (f4_S3 v)) v := by kernel_rfl
theorem f4_L3_it {X : Type} (R_f7 : f7_R) (R_f13 : f13_R) (R_f8 : f8_R) (R_f14 : f14_R) (R_f15 : f15_R) (R_f16 : f16_R) (R_f9 : f9_R) (R_f17 : f17_R) (R_f18 : f18_R) (hR_f7 : AnsOk Try.prog 7 (f7_cOf R_f7)) (hR_f13 : AnsOk Try.prog 13 (f13_cOf R_f13)) (hR_f8 : AnsOk Try.prog 8 (f8_cOf R_f8)) (hR_f14 : AnsOk Try.prog 14 (f14_cOf R_f14)) (hR_f15 : AnsOk Try.prog 15 (f15_cOf R_f15)) (hR_f16 : AnsOk Try.prog 16 (f16_cOf R_f16)) (hR_f9 : AnsOk Try.prog 9 (f9_cOf R_f9)) (hR_f17 : AnsOk Try.prog 17 (f17_cOf R_f17)) (hR_f18 : AnsOk Try.prog 18 (f18_cOf R_f18)) (k : Nat) (K : Out → Option X) (r1 : St → Option X) : (fun v => iter (loopB (f4_cx R_f7 R_f13 R_f8 R_f14 R_f15 R_f16 R_f9 R_f17 R_f18 hR_f7 hR_f13 hR_f8 hR_f14 hR_f15 hR_f16 hR_f9 hR_f17 hR_f18) k [.r, .r, .r, .r, .l, .r, .b, .o, .r, .r, .l, .b, .r, .r, .r, .r, .r, .r, .b] (Try.f4.body.getD .skip) (retK (f4_cx R_f7 R_f13 R_f8 R_f14 R_f15 R_f16 R_f9 R_f17 R_f18 hR_f7 hR_f13 hR_f8 hR_f14 hR_f15 hR_f16 hR_f9 hR_f17 hR_f18) [] Try.f4.results.toList K) [r1]) k (f4_S3 v)) = iterV (f4_L3 R_f7 R_f13 R_f8 R_f14 R_f15 R_f16 R_f9 R_f17 R_f18 k (fun u => K (f4_out u)) (fun v => r1 (f4_S1 v))) k :=
  iter_map (fun r3 v => (f4_L3_ev R_f7 R_f13 R_f8 R_f14 R_f15 R_f16 R_f9 R_f17 R_f18 hR_f7 hR_f13 hR_f8 hR_f14 hR_f15 hR_f16 hR_f9 hR_f17 hR_f18 k K r1 r3 v).trans rfl) k
def f4_T2 {X : Type} (R_f7 : f7_R) (R_f13 : f13_R) (R_f8 : f8_R) (R_f14 : f14_R) (R_f15 : f15_R) (R_f16 : f16_R) (R_f9 : f9_R) (R_f17 : f17_R) (R_f18 : f18_R) (k : Nat) (K : Bool → Option X) (rec1 : (List CV) × Int × Int × Nat × Int × Nat × Int × Int × Bool × (List CV) × (List CV) → Option X) (loop3 : Nat × Int × Nat × (List CV) × Int × Int × Int × Int × Int × Int × Int × (List CV) × (List CV) × (List CV) × Nat × Int × Nat × Int × Int × Bool × (List CV) × (List CV) → Option X) (rec2 : Nat × Int × Nat × (List CV) × Int × Int × Int × Int × Int × Int × Int × (List CV) × (List CV) × (List CV) × Nat × Int × Nat × Int × Int × Bool × (List CV) × (List CV) → Option X) (v24_147 : Nat × Int × Nat × (List CV) × Int × Int × Int × Int × Int × Int × Int × (List CV) × (List CV) × (List CV) × Nat × Int × Nat × Int × Int × Bool × (List CV) × (List CV)) : Option X :=
(bif (decide (v24_147.2.2.2.2.2.2.2.1 < v24_147.2.2.2.2.2.2.1)) then
grd (decide (0 ≤ v24_147.2.2.2.2.2.2.2.1)) <|
grd (decide (v24_147.2.2.2.2.2.2.2.1 < (Nat.cast (v24_147.2.2.1) : Int))) <|
Option.bind (v24_147.2.2.2.2.2.2.2.2.2.2.2.2.2.1)[(0 + (Int.toNat v24_147.2.2.2.2.2.2.2.1))]? fun e152 =>
grd (CV.isI .u8 e152) <|
grd (decide (0 ≤ v24_147.2.2.2.2.2.2.2.1)) <|
grd (decide (v24_147.2.2.2.2.2.2.2.1 < (Nat.cast (v24_147.2.2.1) : Int))) <|
grd (decide ((0 + (Int.toNat v24_147.2.2.2.2.2.2.2.1)) < (List.length v24_147.2.2.2.2.2.2.2.2.2.2.2.2.2.1))) <|
rec2 (v24_147.1, v24_147.2.1, v24_147.2.2.1, v24_147.2.2.2.1, v24_147.2.2.2.2.1, v24_147.2.2.2.2.2.1, v24_147.2.2.2.2.2.2.1, (IntKind.wrap .i64 (v24_147.2.2.2.2.2.2.2.1 + 1)), v24_147.2.2.2.2.2.2.2.2.1, v24_147.2.2.2.2.2.2.2.2.2.1, v24_147.2.2.2.2.2.2.2.2.2.2.1, v24_147.2.2.2.2.2.2.2.2.2.2.2.1, v24_147.2.2.2.2.2.2.2.2.2.2.2.2.1, (List.set v24_147.2.2.2.2.2.2.2.2.2.2.2.2.2.1 (0 + (Int.toNat v24_147.2.2.2.2.2.2.2.1)) (CV.int .u8 (IntKind.wrap .u8 ((CV.toI e152) + 1)))), v24_147.2.2.2.2.2.2.2.2.2.2.2.2.2.2.1, v24_147.2.2.2.2.2.2.2.2.2.2.2.2.2.2.2.1, v24_147.2.2.2.2.2.2.2.2.2.2.2.2.2.2.2.2.1, v24_147.2.2.2.2.2.2.2.2.2.2.2.2.2.2.2.2.2.1, v24_147.2.2.2.2.2.2.2.2.2.2.2.2.2.2.2.2.2.2.1, v24_147.2.2.2.2.2.2.2.2.2.2.2.2.2.2.2.2.2.2.2.1, v24_147.2.2.2.2.2.2.2.2.2.2.2.2.2.2.2.2.2.2.2.2.1, v24_147.2.2.2.2.2.2.2.2.2.2.2.2.2.2.2.2.2.2.2.2.2)
else
R_f14 _ (fun u153 =>
loop3 (v24_147.1, v24_147.2.1, u153.1, v24_147.2.2.2.1, v24_147.2.2.2.2.1, v24_147.2.2.2.2.2.1, (Nat.cast (v24_147.1) : Int), 0, v24_147.2.2.2.2.2.2.2.2.1, v24_147.2.2.2.2.2.2.2.2.2.1, v24_147.2.2.2.2.2.2.2.2.2.2.1, v24_147.2.2.2.2.2.2.2.2.2.2.2.1, v24_147.2.2.2.2.2.2.2.2.2.2.2.2.1, u153.2.2.2.2.2.2.2.2.2, u153.2.1, u153.2.2.1, u153.2.2.2.1, u153.2.2.2.2.1, u153.2.2.2.2.2.1, u153.2.2.2.2.2.2.1, u153.2.2.2.2.2.2.2.1, u153.2.2.2.2.2.2.2.2.1)) (v24_147.2.2.2.2.2.2.2.2.2.2.2.2.2.2.1) (v24_147.2.2.2.2.2.2.2.2.2.2.2.2.2.2.2.1) (v24_147.2.2.2.2.2.2.2.2.2.2.2.2.2.2.2.2.1) (v24_147.2.2.2.2.2.2.2.2.2.2.2.2.2.2.2.2.2.1) (v24_147.2.2.2.2.2.2.2.2.2.2.2.2.2.2.2.2.2.2.1) (v24_147.2.2.2.2.2.2.2.2.2.2.2.2.2.2.2.2.2.2.2.1) (v24_147.2.2.2.2.2.2.2.2.2.2.2.2.2.2.2.2.2.2.2.2.1) (v24_147.2.2.2.2.2.2.2.2.2.2.2.2.2.2.2.2.2.2.2.2.2))
def f4_L2 {X : Type} (R_f7 : f7_R) (R_f13 : f13_R) (R_f8 : f8_R) (R_f14 : f14_R) (R_f15 : f15_R) (R_f16 : f16_R) (R_f9 : f9_R) (R_f17 : f17_R) (R_f18 : f18_R) (k : Nat) (K : Bool → Option X) (rec1 : (List CV) × Int × Int × Nat × Int × Nat × Int × Int × Bool × (List CV) × (List CV) → Option X) (rec2 : Nat × Int × Nat × (List CV) × Int × Int × Int × Int × Int × Int × Int × (List CV) × (List CV) × (List CV) × Nat × Int × Nat × Int × Int × Bool × (List CV) × (List CV) → Option X) (v : Nat × Int × Nat × (List CV) × Int × Int × Int × Int × Int × Int × Int × (List CV) × (List CV) × (List CV) × Nat × Int × Nat × Int × Int × Bool × (List CV) × (List CV)) : Option X := f4_T2 R_f7 R_f13 R_f8 R_f14 R_f15 R_f16 R_f9 R_f17 R_f18 k K rec1 (iterV (f4_L3 R_f7 R_f13 R_f8 R_f14 R_f15 R_f16 R_f9 R_f17 R_f18 k K rec1) k) rec2 v
set_option maxRecDepth 100000 in
theorem f4_L2_ev {X : Type} (R_f7 : f7_R) (R_f13 : f13_R) (R_f8 : f8_R) (R_f14 : f14_R) (R_f15 : f15_R) (R_f16 : f16_R) (R_f9 : f9_R) (R_f17 : f17_R) (R_f18 : f18_R) (hR_f7 : AnsOk Try.prog 7 (f7_cOf R_f7)) (hR_f13 : AnsOk Try.prog 13 (f13_cOf R_f13)) (hR_f8 : AnsOk Try.prog 8 (f8_cOf R_f8)) (hR_f14 : AnsOk Try.prog 14 (f14_cOf R_f14)) (hR_f15 : AnsOk Try.prog 15 (f15_cOf R_f15)) (hR_f16 : AnsOk Try.prog 16 (f16_cOf R_f16)) (hR_f9 : AnsOk Try.prog 9 (f9_cOf R_f9)) (hR_f17 : AnsOk Try.prog 17 (f17_cOf R_f17)) (hR_f18 : AnsOk Try.prog 18 (f18_cOf R_f18)) (k : Nat) (K : Out → Option X) (r1 : St → Option X) (r2 : St → Option X) (v : Nat × Int × Nat × (List CV) × Int × Int × Int × Int × Int × Int × Int × (List CV) × (List CV) × (List CV) × Nat × Int × Nat × Int × Int × Bool × (List CV) × (List CV)) : loopB (f4_cx R_f7 R_f13 R_f8 R_f14 R_f15 R_f16 R_f9 R_f17 R_f18 hR_f7 hR_f13 hR_f8 hR_f14 hR_f15 hR_f16 hR_f9 hR_f17 hR_f18) k [.r, .r, .r, .r, .l, .r, .b, .o, .r, .r, .l, .b, .r, .r, .r, .l, .r, .b, .r, .t, .r, .r, .r, .b] (Try.f4.body.getD .skip) (retK (f4_cx R_f7 R_f13 R_f8 R_f14 R_f15 R_f16 R_f9 R_f17 R_f18 hR_f7 hR_f13 hR_f8 hR_f14 hR_f15 hR_f16 hR_f9 hR_f17 hR_f18) [] Try.f4.results.toList K) [r1] r2 (f4_S2 v) = f4_T2 R_f7 R_f13 R_f8 R_f14 R_f15 R_f16 R_f9 R_f17 R_f18 k (fun u => K (f4_out u)) (fun v => r1 (f4_S1 v)) (fun v => iter (loopB (f4_cx R_f7 R_f13 R_f8 R_f14 R_f15 R_f16 R_f9 R_f17 R_f18 hR_f7 hR_f13 hR_f8 hR_f14 hR_f15 hR_f16 hR_f9 hR_f17 hR_f18) k [.r, .r, .r, .r, .l, .r, .b, .o, .r, .r, .l, .b, .r, .r, .r, .r, .r, .r, .b] (Try.f4.body.getD .skip) (retK (f4_cx R_f7 R_f13 R_f8 R_f14 R_f15 R_f16 R_f9 R_f17 R_f18 hR_f7 hR_f13 hR_f8 hR_f14 hR_f15 hR_f16 hR_f9 hR_f17 hR_f18) [] Try.f4.results.toList K) [r1]) k (f4_S3 v)) (fun v => r2 (f4_S2 v)) v := by kernel_rfl
theorem f4_L2_it {X : Type} (R_f7 : f7_R) (R_f13 : f13_R) (R_f8 : f8_R) (R_f14 : f14_R) (R_f15 : f15_R) (R_f16 : f16_R) (R_f9 : f9_R) (R_f17 : f17_R) (R_f18 : f18_R) (hR_f7 : AnsOk Try.prog 7 (f7_cOf R_f7)) (hR_f13 : AnsOk Try.prog 13 (f13_cOf R_f13)) (hR_f8 : AnsOk Try.prog 8 (f8_cOf R_f8)) (hR_f14 : AnsOk Try.prog 14 (f14_cOf R_f14)) (hR_f15 : AnsOk Try.prog 15 (f15_cOf R_f15)) (hR_f16 : AnsOk Try.prog 16 (f16_cOf R_f16)) (hR_f9 : AnsOk Try.prog 9 (f9_cOf R_f9)) (hR_f17 : AnsOk Try.prog 17 (f17_cOf R_f17)) (hR_f18 : AnsOk Try.prog 18 (f18_cOf R_f18)) (k : Nat) (K : Out → Option X) (r1 : St → Option X) : (fun v => iter (loopB (f4_cx R_f7 R_f13 R_f8 R_f14 R_f15 R_f16 R_f9 R_f17 R_f18 hR_f7 hR_f13 hR_f8 hR_f14 hR_f15 hR_f16 hR_f9 hR_f17 hR_f18) k [.r, .r, .r, .r, .l, .r, .b, .o, .r, .r, .l, .b, .r, .r, .r, .l, .r, .b, .r, .t, .r, .r, .r, .b] (Try.f4.body.getD .skip) (retK (f4_cx R_f7 R_f13 R_f8 R_f14 R_f15 R_f16 R_f9 R_f17 R_f18 hR_f7 hR_f13 hR_f8 hR_f14 hR_f15 hR_f16 hR_f9 hR_f17 hR_f18) [] Try.f4.results.toList K) [r1]) k (f4_S2 v)) = iterV (f4_L2 R_f7 R_f13 R_f8 R_f14 R_f15 R_f16 R_f9 R_f17 R_f18 k (fun u => K (f4_out u)) (fun v => r1 (f4_S1 v))) k :=
  iter_map (fun r2 v => (f4_L2_ev R_f7 R_f13 R_f8 R_f14 R_f15 R_f16 R_f9 R_f17 R_f18 hR_f7 hR_f13 hR_f8 hR_f14 hR_f15 hR_f16 hR_f9 hR_f17 hR_f18 k K r1 r2 v).trans (by rw [f4_L3_it R_f7 R_f13 R_f8 R_f14 R_f15 R_f16 R_f9 R_f17 R_f18 hR_f7 hR_f13 hR_f8 hR_f14 hR_f15 hR_f16 hR_f9 hR_f17 hR_f18 k K r1]; rfl)) k
def f4_T1 {X : Type} (R_f7 : f7_R) (R_f13 : f13_R) (R_f8 : f8_R) (R_f14 : f14_R) (R_f15 : f15_R) (R_f16 : f16_R) (R_f9 : f9_R) (R_f17 : f17_R) (R_f18 : f18_R) (k : Nat) (K : Bool → Option X)  (loop2 : Nat × Int × Nat × (List CV) × Int × Int × Int × Int × Int × Int × Int × (List CV) × (List CV) × (List CV) × Nat × Int × Nat × Int × Int × Bool × (List CV) × (List CV) → Option X) (loop4 : Nat × Nat × Int × (List CV) × Int × Int × Int × Int × Int × Int × Int × (List CV) × (List CV) × (List CV) × Nat × Int × Nat × Int × Int × Bool × (List CV) × (List CV) → Option X) (loop6 : Nat × Nat × (List CV) × Int × Int × Int × Int × Int × Int × Int × (List CV) × (List CV) × (List CV) × Nat × Int × Nat × Int × Int × Bool × (List CV) × (List CV) → Option X) (loop7 : Nat × Nat × (List CV) × Int × Int × Int × Int × Int × Int × Int × (List CV) × (List CV) × (List CV) × Nat × Int × Nat × Int × Int × Bool × (List CV) × (List CV) → Option X) (rec1 : (List CV) × Int × Int × Nat × Int × Nat × Int × Int × Bool × (List CV) × (List CV) → Option X) (v7_5 : (List CV) × Int × Int × Nat × Int × Nat × Int × Int × Bool × (List CV) × (List CV)) : Option X :=
(bif (decide (v7_5.2.2.1 < v7_5.2.1)) then
grd (decide (0 ≤ v7_5.2.2.1)) <|
Option.bind (v7_5.1)[(Int.toNat v7_5.2.2.1)]? fun e144 =>
grd (CV.isA 4 e144) <|
grd (CV.isI .i64 (CV.cellD 0 e144)) <|
grd (CV.isI .i64 (CV.cellD 1 e144)) <|
grd (CV.isI .i64 (CV.cellD 2 e144)) <|
grd (CV.isL none (CV.cellD 3 e144)) <|
R_f14 _ (fun u145 =>
(bif ((CV.toI (CV.cellD 0 e144)) == 0) then
R_f15 _ (fun u146 =>
R_f16 _ (fun u147 =>
loop2 (u145.1, u147.1, u146.1, v7_5.1, v7_5.2.1, v7_5.2.2.1, (Nat.cast (u146.1) : Int), 0, (CV.toI (CV.cellD 0 e144)), (CV.toI (CV.cellD 1 e144)), (CV.toI (CV.cellD 2 e144)), (CV.toL (CV.cellD 3 e144)), u145.2.2.2.2.2.2.2.2.2, u146.2, u147.2.1, u147.2.2.1, u147.2.2.2.1, u147.2.2.2.2.1, u147.2.2.2.2.2.1, u147.2.2.2.2.2.2.1, u147.2.2.2.2.2.2.2.1, u147.2.2.2.2.2.2.2.2)) ((CV.toI (CV.cellD 1 e144))) ((List.take u146.1 (List.drop 0 u146.2))) (u145.2.1) (u145.2.2.1) (u145.2.2.2.1) (u145.2.2.2.2.1) (u145.2.2.2.2.2.1) (u145.2.2.2.2.2.2.1) (u145.2.2.2.2.2.2.2.1) (u145.2.2.2.2.2.2.2.2.1)) ((CV.toL (CV.cellD 3 e144)))
else
(bif ((CV.toI (CV.cellD 0 e144)) == 2) then
R_f9 _ (fun u196 =>
loop4 (u145.1, u196.1, u196.2.1, v7_5.1, v7_5.2.1, v7_5.2.2.1, (Nat.cast (u196.1) : Int), 0, (CV.toI (CV.cellD 0 e144)), (CV.toI (CV.cellD 1 e144)), (CV.toI (CV.cellD 2 e144)), (CV.toL (CV.cellD 3 e144)), u145.2.2.2.2.2.2.2.2.2, u196.2.2.2.2.2.2.2.2.2.2, u196.2.2.1, u196.2.2.2.1, u196.2.2.2.2.1, u196.2.2.2.2.2.1, u196.2.2.2.2.2.2.1, u196.2.2.2.2.2.2.2.1, u196.2.2.2.2.2.2.2.2.1, u196.2.2.2.2.2.2.2.2.2.1)) ((CV.toI (CV.cellD 1 e144))) ((CV.toI (CV.cellD 2 e144))) (u145.2.1) (u145.2.2.1) (u145.2.2.2.1) (u145.2.2.2.2.1) (u145.2.2.2.2.2.1) (u145.2.2.2.2.2.2.1) (u145.2.2.2.2.2.2.2.1) (u145.2.2.2.2.2.2.2.2.1)
else
(bif ((CV.toI (CV.cellD 0 e144)) == 3) then
R_f17 _ (fun u245 =>
R_f14 _ (fun u246 =>
loop6 (u145.1, u246.1, v7_5.1, v7_5.2.1, v7_5.2.2.1, (Nat.cast (u145.1) : Int), 0, (CV.toI (CV.cellD 0 e144)), (CV.toI (CV.cellD 1 e144)), (CV.toI (CV.cellD 2 e144)), (CV.toL (CV.cellD 3 e144)), u145.2.2.2.2.2.2.2.2.2, u246.2.2.2.2.2.2.2.2.2, u246.2.1, u246.2.2.1, u246.2.2.2.1, u246.2.2.2.2.1, u246.2.2.2.2.2.1, u246.2.2.2.2.2.2.1, u246.2.2.2.2.2.2.2.1, u246.2.2.2.2.2.2.2.2.1)) (u245.1) (u245.2.1) (u245.2.2.1) (u245.2.2.2.1) (u245.2.2.2.2.1) (u245.2.2.2.2.2.1) (u245.2.2.2.2.2.2.1) (u245.2.2.2.2.2.2.2)) ((CV.toI (CV.cellD 1 e144))) (u145.2.1) (u145.2.2.1) (u145.2.2.2.1) (u145.2.2.2.2.1) (u145.2.2.2.2.2.1) (u145.2.2.2.2.2.2.1) (u145.2.2.2.2.2.2.2.1) (u145.2.2.2.2.2.2.2.2.1)
else
(bif ((CV.toI (CV.cellD 0 e144)) == 4) then
R_f18 _ (fun u265 =>
R_f14 _ (fun u266 =>
loop7 (u145.1, u266.1, v7_5.1, v7_5.2.1, v7_5.2.2.1, (Nat.cast (u145.1) : Int), 0, (CV.toI (CV.cellD 0 e144)), (CV.toI (CV.cellD 1 e144)), (CV.toI (CV.cellD 2 e144)), (CV.toL (CV.cellD 3 e144)), u145.2.2.2.2.2.2.2.2.2, u266.2.2.2.2.2.2.2.2.2, u266.2.1, u266.2.2.1, u266.2.2.2.1, u266.2.2.2.2.1, u266.2.2.2.2.2.1, u266.2.2.2.2.2.2.1, u266.2.2.2.2.2.2.2.1, u266.2.2.2.2.2.2.2.2.1)) (u265.1) (u265.2.1) (u265.2.2.1) (u265.2.2.2.1) ((-1)) (false) (u265.2.2.2.2.1) (u265.2.2.2.2.2)) (u145.2.1) (u145.2.2.1) (u145.2.2.2.1) (u145.2.2.2.2.1) (u145.2.2.2.2.2.1) (u145.2.2.2.2.2.2.1) (u145.2.2.2.2.2.2.2.1) (u145.2.2.2.2.2.2.2.2.1)
else
rec1 (v7_5.1, v7_5.2.1, (IntKind.wrap .i64 (v7_5.2.2.1 + 1)), u145.2.1, u145.2.2.1, u145.2.2.2.1, u145.2.2.2.2.1, u145.2.2.2.2.2.1, u145.2.2.2.2.2.2.1, u145.2.2.2.2.2.2.2.1, u145.2.2.2.2.2.2.2.2.1)))))) (v7_5.2.2.2.1) (v7_5.2.2.2.2.1) (v7_5.2.2.2.2.2.1) (v7_5.2.2.2.2.2.2.1) (v7_5.2.2.2.2.2.2.2.1) (v7_5.2.2.2.2.2.2.2.2.1) (v7_5.2.2.2.2.2.2.2.2.2.1) (v7_5.2.2.2.2.2.2.2.2.2.2)
else
K (true))
def f4_L1 {X : Type} (R_f7 : f7_R) (R_f13 : f13_R) (R_f8 : f8_R) (R_f14 : f14_R) (R_f15 : f15_R) (R_f16 : f16_R) (R_f9 : f9_R) (R_f17 : f17_R) (R_f18 : f18_R) (k : Nat) (K : Bool → Option X)  (rec1 : (List CV) × Int × Int × Nat × Int × Nat × Int × Int × Bool × (List CV) × (List CV) → Option X) (v : (List CV) × Int × Int × Nat × Int × Nat × Int × Int × Bool × (List CV) × (List CV)) : Option X := f4_T1 R_f7 R_f13 R_f8 R_f14 R_f15 R_f16 R_f9 R_f17 R_f18 k K  (iterV (f4_L2 R_f7 R_f13 R_f8 R_f14 R_f15 R_f16 R_f9 R_f17 R_f18 k K rec1) k) (iterV (f4_L4 R_f7 R_f13 R_f8 R_f14 R_f15 R_f16 R_f9 R_f17 R_f18 k K rec1) k) (iterV (f4_L6 R_f7 R_f13 R_f8 R_f14 R_f15 R_f16 R_f9 R_f17 R_f18 k K rec1) k) (iterV (f4_L7 R_f7 R_f13 R_f8 R_f14 R_f15 R_f16 R_f9 R_f17 R_f18 k K rec1) k) rec1 v
set_option maxRecDepth 100000 in
theorem f4_L1_ev {X : Type} (R_f7 : f7_R) (R_f13 : f13_R) (R_f8 : f8_R) (R_f14 : f14_R) (R_f15 : f15_R) (R_f16 : f16_R) (R_f9 : f9_R) (R_f17 : f17_R) (R_f18 : f18_R) (hR_f7 : AnsOk Try.prog 7 (f7_cOf R_f7)) (hR_f13 : AnsOk Try.prog 13 (f13_cOf R_f13)) (hR_f8 : AnsOk Try.prog 8 (f8_cOf R_f8)) (hR_f14 : AnsOk Try.prog 14 (f14_cOf R_f14)) (hR_f15 : AnsOk Try.prog 15 (f15_cOf R_f15)) (hR_f16 : AnsOk Try.prog 16 (f16_cOf R_f16)) (hR_f9 : AnsOk Try.prog 9 (f9_cOf R_f9)) (hR_f17 : AnsOk Try.prog 17 (f17_cOf R_f17)) (hR_f18 : AnsOk Try.prog 18 (f18_cOf R_f18)) (k : Nat) (K : Out → Option X)  (r1 : St → Option X) (v : (List CV) × Int × Int × Nat × Int × Nat × Int × Int × Bool × (List CV) × (List CV)) : loopB (f4_cx R_f7 R_f13 R_f8 R_f14 R_f15 R_f16 R_f9 R_f17 R_f18 hR_f7 hR_f13 hR_f8 hR_f14 hR_f15 hR_f16 hR_f9 hR_f17 hR_f18) k [.r, .r, .r, .r, .l, .r, .b] (Try.f4.body.getD .skip) (retK (f4_cx R_f7 R_f13 R_f8 R_f14 R_f15 R_f16 R_f9 R_f17 R_f18 hR_f7 hR_f13 hR_f8 hR_f14 hR_f15 hR_f16 hR_f9 hR_f17 hR_f18) [] Try.f4.results.toList K) [] r1 (f4_S1 v) = f4_T1 R_f7 R_f13 R_f8 R_f14 R_f15 R_f16 R_f9 R_f17 R_f18 k (fun u => K (f4_out u))  (fun v => iter (loopB (f4_cx R_f7 R_f13 R_f8 R_f14 R_f15 R_f16 R_f9 R_f17 R_f18 hR_f7 hR_f13 hR_f8 hR_f14 hR_f15 hR_f16 hR_f9 hR_f17 hR_f18) k [.r, .r, .r, .r, .l, .r, .b, .o, .r, .r, .l, .b, .r, .r, .r, .l, .r, .b, .r, .t, .r, .r, .r, .b] (Try.f4.body.getD .skip) (retK (f4_cx R_f7 R_f13 R_f8 R_f14 R_f15 R_f16 R_f9 R_f17 R_f18 hR_f7 hR_f13 hR_f8 hR_f14 hR_f15 hR_f16 hR_f9 hR_f17 hR_f18) [] Try.f4.results.toList K) [r1]) k (f4_S2 v)) (fun v => iter (loopB (f4_cx R_f7 R_f13 R_f8 R_f14 R_f15 R_f16 R_f9 R_f17 R_f18 hR_f7 hR_f13 hR_f8 hR_f14 hR_f15 hR_f16 hR_f9 hR_f17 hR_f18) k [.r, .r, .r, .r, .l, .r, .b, .o, .r, .r, .l, .b, .r, .r, .r, .l, .r, .b, .r, .e, .r, .t, .r, .l, .r, .b] (Try.f4.body.getD .skip) (retK (f4_cx R_f7 R_f13 R_f8 R_f14 R_f15 R_f16 R_f9 R_f17 R_f18 hR_f7 hR_f13 hR_f8 hR_f14 hR_f15 hR_f16 hR_f9 hR_f17 hR_f18) [] Try.f4.results.toList K) [r1]) k (f4_S4 v)) (fun v => iter (loopB (f4_cx R_f7 R_f13 R_f8 R_f14 R_f15 R_f16 R_f9 R_f17 R_f18 hR_f7 hR_f13 hR_f8 hR_f14 hR_f15 hR_f16 hR_f9 hR_f17 hR_f18) k [.r, .r, .r, .r, .l, .r, .b, .o, .r, .r, .l, .b, .r, .r, .r, .r, .r, .r, .b] (Try.f4.body.getD .skip) (retK (f4_cx R_f7 R_f13 R_f8 R_f14 R_f15 R_f16 R_f9 R_f17 R_f18 hR_f7 hR_f13 hR_f8 hR_f14 hR_f15 hR_f16 hR_f9 hR_f17 hR_f18) [] Try.f4.results.toList K) [r1]) k (f4_S6 v)) (fun v => iter (loopB (f4_cx R_f7 R_f13 R_f8 R_f14 R_f15 R_f16 R_f9 R_f17 R_f18 hR_f7 hR_f13 hR_f8 hR_f14 hR_f15 hR_f16 hR_f9 hR_f17 hR_f18) k [.r, .r, .r, .r, .l, .r, .b, .o, .r, .r, .l, .b, .r, .r, .r, .r, .r, .r, .b] (Try.f4.body.getD .skip) (retK (f4_cx R_f7 R_f13 R_f8 R_f14 R_f15 R_f16 R_f9 R_f17 R_f18 hR_f7 hR_f13 hR_f8 hR_f14 hR_f15 hR_f16 hR_f9 hR_f17 hR_f18) [] Try.f4.results.toList K) [r1]) k (f4_S7 v)) (fun v => r1 (f4_S1 v)) v := by kernel_rfl
theorem f4_L1_it {X : Type} (R_f7 : f7_R) (R_f13 : f13_R) (R_f8 : f8_R) (R_f14 : f14_R) (R_f15 : f15_R) (R_f16 : f16_R) (R_f9 : f9_R) (R_f17 : f17_R) (R_f18 : f18_R) (hR_f7 : AnsOk Try.prog 7 (f7_cOf R_f7)) (hR_f13 : AnsOk Try.prog 13 (f13_cOf R_f13)) (hR_f8 : AnsOk Try.prog 8 (f8_cOf R_f8)) (hR_f14 : AnsOk Try.prog 14 (f14_cOf R_f14)) (hR_f15 : AnsOk Try.prog 15 (f15_cOf R_f15)) (hR_f16 : AnsOk Try.prog 16 (f16_cOf R_f16)) (hR_f9 : AnsOk Try.prog 9 (f9_cOf R_f9)) (hR_f17 : AnsOk Try.prog 17 (f17_cOf R_f17)) (hR_f18 : AnsOk Try.prog 18 (f18_cOf R_f18)) (k : Nat) (K : Out → Option X)  : (fun v => iter (loopB (f4_cx R_f7 R_f13 R_f8 R_f14 R_f15 R_f16 R_f9 R_f17 R_f18 hR_f7 hR_f13 hR_f8 hR_f14 hR_f15 hR_f16 hR_f9 hR_f17 hR_f18) k [.r, .r, .r, .r, .l, .r, .b] (Try.f4.body.getD .skip) (retK (f4_cx R_f7 R_f13 R_f8 R_f14 R_f15 R_f16 R_f9 R_f17 R_f18 hR_f7 hR_f13 hR_f8 hR_f14 hR_f15 hR_f16 hR_f9 hR_f17 hR_f18) [] Try.f4.results.toList K) []) k (f4_S1 v)) = iterV (f4_L1 R_f7 R_f13 R_f8 R_f14 R_f15 R_f16 R_f9 R_f17 R_f18 k (fun u => K (f4_out u)) ) k :=
  iter_map (fun r1 v => (f4_L1_ev R_f7 R_f13 R_f8 R_f14 R_f15 R_f16 R_f9 R_f17 R_f18 hR_f7 hR_f13 hR_f8 hR_f14 hR_f15 hR_f16 hR_f9 hR_f17 hR_f18 k K  r1 v).trans (by rw [f4_L2_it R_f7 R_f13 R_f8 R_f14 R_f15 R_f16 R_f9 R_f17 R_f18 hR_f7 hR_f13 hR_f8 hR_f14 hR_f15 hR_f16 hR_f9 hR_f17 hR_f18 k K r1, f4_L4_it R_f7 R_f13 R_f8 R_f14 R_f15 R_f16 R_f9 R_f17 R_f18 hR_f7 hR_f13 hR_f8 hR_f14 hR_f15 hR_f16 hR_f9 hR_f17 hR_f18 k K r1, f4_L6_it R_f7 R_f13 R_f8 R_f14 R_f15 R_f16 R_f9 R_f17 R_f18 hR_f7 hR_f13 hR_f8 hR_f14 hR_f15 hR_f16 hR_f9 hR_f17 hR_f18 k K r1, f4_L7_it R_f7 R_f13 R_f8 R_f14 R_f15 R_f16 R_f9 R_f17 R_f18 hR_f7 hR_f13 hR_f8 hR_f14 hR_f15 hR_f16 hR_f9 hR_f17 hR_f18 k K r1]; rfl)) k
def f4_T {X : Type} (R_f7 : f7_R) (R_f13 : f13_R) (R_f8 : f8_R) (R_f14 : f14_R) (R_f15 : f15_R) (R_f16 : f16_R) (R_f9 : f9_R) (R_f17 : f17_R) (R_f18 : f18_R) (k : Nat) (K : Bool → Option X) (loop1 : (List CV) × Int × Int × Nat × Int × Nat × Int × Int × Bool × (List CV) × (List CV) → Option X) (x0 : Int) (x1 : Int) (x2 : List CV) : Option X :=
R_f7 _ (fun u2 =>
(bif (!u2) then
K (false)
else
(bif (decide (x0 > 6)) then
K (true)
else
(bif (decide (x1 > 64)) then
K (true)
else
R_f13 _ (fun u4 =>
(bif (!u4) then
K (true)
else
R_f8 _ (fun u5 =>
loop1 (x2, (Nat.cast ((List.length x2)) : Int), 0, u5.1, u5.2.1, u5.2.2.1, 0, (-1), false, u5.2.2.2.1, u5.2.2.2.2)) (x0) (x1))) (x2))))) 
/-- "outpost/outpostlaw03.FlashClears" -/
def f4_A (R_f7 : f7_R) (R_f13 : f13_R) (R_f8 : f8_R) (R_f14 : f14_R) (R_f15 : f15_R) (R_f16 : f16_R) (R_f9 : f9_R) (R_f17 : f17_R) (R_f18 : f18_R) (k : Nat) : f4_R := fun X K x0 x1 x2 => f4_T R_f7 R_f13 R_f8 R_f14 R_f15 R_f16 R_f9 R_f17 R_f18 k K (iterV (f4_L1 R_f7 R_f13 R_f8 R_f14 R_f15 R_f16 R_f9 R_f17 R_f18 k K) k) x0 x1 x2
set_option maxRecDepth 100000 in
theorem f4_ev' {X : Type} (R_f7 : f7_R) (R_f13 : f13_R) (R_f8 : f8_R) (R_f14 : f14_R) (R_f15 : f15_R) (R_f16 : f16_R) (R_f9 : f9_R) (R_f17 : f17_R) (R_f18 : f18_R) (hR_f7 : AnsOk Try.prog 7 (f7_cOf R_f7)) (hR_f13 : AnsOk Try.prog 13 (f13_cOf R_f13)) (hR_f8 : AnsOk Try.prog 8 (f8_cOf R_f8)) (hR_f14 : AnsOk Try.prog 14 (f14_cOf R_f14)) (hR_f15 : AnsOk Try.prog 15 (f15_cOf R_f15)) (hR_f16 : AnsOk Try.prog 16 (f16_cOf R_f16)) (hR_f9 : AnsOk Try.prog 9 (f9_cOf R_f9)) (hR_f17 : AnsOk Try.prog 17 (f17_cOf R_f17)) (hR_f18 : AnsOk Try.prog 18 (f18_cOf R_f18)) (k : Nat) (K : Out → Option X) (x0 : Int) (x1 : Int) (x2 : List CV) : evFn (f4_cx R_f7 R_f13 R_f8 R_f14 R_f15 R_f16 R_f9 R_f17 R_f18 hR_f7 hR_f13 hR_f8 hR_f14 hR_f15 hR_f16 hR_f9 hR_f17 hR_f18) [] k Try.f4.ntmps Try.f4.results.toList (Try.f4.body.getD .skip) [(.v (CV.int .i64 x0)), (.v (CV.int .i64 x1)), (.sl true (some 4) x2)] [] K = f4_T R_f7 R_f13 R_f8 R_f14 R_f15 R_f16 R_f9 R_f17 R_f18 k (fun u => K (f4_out u)) (fun v => iter (loopB (f4_cx R_f7 R_f13 R_f8 R_f14 R_f15 R_f16 R_f9 R_f17 R_f18 hR_f7 hR_f13 hR_f8 hR_f14 hR_f15 hR_f16 hR_f9 hR_f17 hR_f18) k [.r, .r, .r, .r, .l, .r, .b] (Try.f4.body.getD .skip) (retK (f4_cx R_f7 R_f13 R_f8 R_f14 R_f15 R_f16 R_f9 R_f17 R_f18 hR_f7 hR_f13 hR_f8 hR_f14 hR_f15 hR_f16 hR_f9 hR_f17 hR_f18) [] Try.f4.results.toList K) []) k (f4_S1 v)) x0 x1 x2 := by kernel_rfl
theorem f4_ev {X : Type} (R_f7 : f7_R) (R_f13 : f13_R) (R_f8 : f8_R) (R_f14 : f14_R) (R_f15 : f15_R) (R_f16 : f16_R) (R_f9 : f9_R) (R_f17 : f17_R) (R_f18 : f18_R) (hR_f7 : AnsOk Try.prog 7 (f7_cOf R_f7)) (hR_f13 : AnsOk Try.prog 13 (f13_cOf R_f13)) (hR_f8 : AnsOk Try.prog 8 (f8_cOf R_f8)) (hR_f14 : AnsOk Try.prog 14 (f14_cOf R_f14)) (hR_f15 : AnsOk Try.prog 15 (f15_cOf R_f15)) (hR_f16 : AnsOk Try.prog 16 (f16_cOf R_f16)) (hR_f9 : AnsOk Try.prog 9 (f9_cOf R_f9)) (hR_f17 : AnsOk Try.prog 17 (f17_cOf R_f17)) (hR_f18 : AnsOk Try.prog 18 (f18_cOf R_f18)) (k : Nat) (K : Out → Option X) (x0 : Int) (x1 : Int) (x2 : List CV) : evFn (f4_cx R_f7 R_f13 R_f8 R_f14 R_f15 R_f16 R_f9 R_f17 R_f18 hR_f7 hR_f13 hR_f8 hR_f14 hR_f15 hR_f16 hR_f9 hR_f17 hR_f18) [] k Try.f4.ntmps Try.f4.results.toList (Try.f4.body.getD .skip) [(.v (CV.int .i64 x0)), (.v (CV.int .i64 x1)), (.sl true (some 4) x2)] [] K = f4_A R_f7 R_f13 R_f8 R_f14 R_f15 R_f16 R_f9 R_f17 R_f18 k X (fun u => K (f4_out u)) x0 x1 x2 := (f4_ev' R_f7 R_f13 R_f8 R_f14 R_f15 R_f16 R_f9 R_f17 R_f18 hR_f7 hR_f13 hR_f8 hR_f14 hR_f15 hR_f16 hR_f9 hR_f17 hR_f18 k K x0 x1 x2).trans (by rw [f4_L1_it R_f7 R_f13 R_f8 R_f14 R_f15 R_f16 R_f9 R_f17 R_f18 hR_f7 hR_f13 hR_f8 hR_f14 hR_f15 hR_f16 hR_f9 hR_f17 hR_f18 k K]; rfl)
theorem f4_okA (R_f7 : f7_R) (R_f13 : f13_R) (R_f8 : f8_R) (R_f14 : f14_R) (R_f15 : f15_R) (R_f16 : f16_R) (R_f9 : f9_R) (R_f17 : f17_R) (R_f18 : f18_R) (hR_f7 : AnsOk Try.prog 7 (f7_cOf R_f7)) (hR_f13 : AnsOk Try.prog 13 (f13_cOf R_f13)) (hR_f8 : AnsOk Try.prog 8 (f8_cOf R_f8)) (hR_f14 : AnsOk Try.prog 14 (f14_cOf R_f14)) (hR_f15 : AnsOk Try.prog 15 (f15_cOf R_f15)) (hR_f16 : AnsOk Try.prog 16 (f16_cOf R_f16)) (hR_f9 : AnsOk Try.prog 9 (f9_cOf R_f9)) (hR_f17 : AnsOk Try.prog 17 (f17_cOf R_f17)) (hR_f18 : AnsOk Try.prog 18 (f18_cOf R_f18)) (k : Nat) : AnsOk Try.prog 4 (f4_cOf (f4_A R_f7 R_f13 R_f8 R_f14 R_f15 R_f16 R_f9 R_f17 R_f18 k)) := by
  intro X xs ns K x h
  unfold f4_cOf at h ⊢
  split at h
  · exact ans_main S (f4_Cok R_f7 R_f13 R_f8 R_f14 R_f15 R_f16 R_f9 R_f17 R_f18 hR_f7 hR_f13 hR_f8 hR_f14 hR_f15 hR_f16 hR_f9 hR_f17 hR_f18) Try.func4 (ent_of Try.func4 (by kernel_rfl) rfl) rfl (fun X K => f4_ev R_f7 R_f13 R_f8 R_f14 R_f15 R_f16 R_f9 R_f17 R_f18 hR_f7 hR_f13 hR_f8 hR_f14 hR_f15 hR_f16 hR_f9 hR_f17 hR_f18 k K _ _ _) h
  · cases h
/-- "outpost/outpostlaw03.FlashClears" -/
def f4 {X : Type} (k : Nat) (K : Bool → Option X) (x0 : Int) (x1 : Int) (x2 : List CV) : Option X := f4_A (fun X => @f7 X k) (fun X => @f13 X k) (fun X => @f8 X k) (fun X => @f14 X k) (fun X => @f15 X k) (fun X => @f16 X k) (fun X => @f9 X k) (fun X => @f17 X k) (fun X => @f18 X k) k X K x0 x1 x2
theorem f4_ok (k : Nat) : AnsOk Try.prog 4 (f4_cOf (fun X => @f4 X k)) := f4_okA (fun X => @f7 X k) (fun X => @f13 X k) (fun X => @f8 X k) (fun X => @f14 X k) (fun X => @f15 X k) (fun X => @f16 X k) (fun X => @f9 X k) (fun X => @f17 X k) (fun X => @f18 X k) (f7_ok k) (f13_ok k) (f8_ok k) (f14_ok k) (f15_ok k) (f16_ok k) (f9_ok k) (f17_ok k) (f18_ok k) k
abbrev f20_R : Type 1 := (X : Type) → (Bool → Option X) → (List CV) → (List CV) → Option X
def f20_out (u : Bool) : Out := ⟨(.v (CV.bool u)), []⟩
def f20_cOf (R : f20_R) : FnC := fun X xs ns K => match xs, ns with
  | [(.sl false none x0), (.sl false none x1)], [] => R X (fun u => K (f20_out u)) x0 x1
  | _, _ => none
def f20_plan : Nat → Option (List Nat × List Wk)
  | 0 => some ([0, 1], [])
  | 1 => some ([0, 1], [])
  | 2 => some ([], [])
  | 3 => some ([0, 1], [])
  | 4 => some ([0, 1, 5], [])
  | 5 => some ([0, 1, 5], [])
  | 6 => some ([0, 1, 5], [])
  | 7 => some ([], [])
  | 8 => some ([], [])
  | _ => none
def f20_C : Fns := noC
theorem f20_Cok : CsOk Try.prog (f20_C) := noC_ok
def f20_cx : Cx := mkCx (tabOf rows) (f20_C) md (cmpIn cmps) f20_plan (f20_Cok)
def f20_S1 (v : (List CV) × (List CV) × Int) : St := ⟨[(.sl false none v.1), (.sl false none v.2.1), .undef, .undef, .undef, (.v (CV.int .i64 v.2.2)), .undef, .undef, .undef, .undef, .undef, .undef, .undef, .undef, .undef, .undef, .undef, .undef, .undef, .undef, .undef, .undef, .undef, .undef, .undef, .undef], []⟩
def f20_T1 {X : Type} (k : Nat) (K : Bool → Option X)   (rec1 : (List CV) × (List CV) × Int → Option X) (v5_0 : (List CV) × (List CV) × Int) : Option X :=
(bif (decide (v5_0.2.2 < (Nat.cast ((List.length v5_0.1)) : Int))) then
grd (decide (0 ≤ v5_0.2.2)) <|
Option.bind (v5_0.1)[(Int.toNat v5_0.2.2)]? fun e8 =>
grd (CV.isI .u8 e8) <|
grd (decide (0 ≤ v5_0.2.2)) <|
Option.bind (v5_0.2.1)[(Int.toNat v5_0.2.2)]? fun e9 =>
grd (CV.isI .u8 e9) <|
(bif ((CV.toI e8) != (CV.toI e9)) then
K (false)
else
rec1 (v5_0.1, v5_0.2.1, (IntKind.wrap .i64 (v5_0.2.2 + 1))))
else
K (true))
def f20_L1 {X : Type} (k : Nat) (K : Bool → Option X)  (rec1 : (List CV) × (List CV) × Int → Option X) (v : (List CV) × (List CV) × Int) : Option X := f20_T1 k K   rec1 v
set_option maxRecDepth 100000 in
theorem f20_L1_ev {X : Type} (k : Nat) (K : Out → Option X)  (r1 : St → Option X) (v : (List CV) × (List CV) × Int) : loopB (f20_cx) k [.r, .r, .l, .r, .b] (Try.f20.body.getD .skip) (retK (f20_cx) [] Try.f20.results.toList K) [] r1 (f20_S1 v) = f20_T1 k (fun u => K (f20_out u))   (fun v => r1 (f20_S1 v)) v := by kernel_rfl
theorem f20_L1_it {X : Type} (k : Nat) (K : Out → Option X)  : (fun v => iter (loopB (f20_cx) k [.r, .r, .l, .r, .b] (Try.f20.body.getD .skip) (retK (f20_cx) [] Try.f20.results.toList K) []) k (f20_S1 v)) = iterV (f20_L1 k (fun u => K (f20_out u)) ) k :=
  iter_map (fun r1 v => (f20_L1_ev k K  r1 v).trans rfl) k
def f20_T {X : Type} (k : Nat) (K : Bool → Option X) (loop1 : (List CV) × (List CV) × Int → Option X) (x0 : List CV) (x1 : List CV) : Option X :=
(bif ((Nat.cast ((List.length x0)) : Int) != (Nat.cast ((List.length x1)) : Int)) then
K (false)
else
loop1 (x0, x1, 0))
/-- "outpost/outpostref01.Same" -/
def f20_A (k : Nat) : f20_R := fun X K x0 x1 => f20_T k K (iterV (f20_L1 k K) k) x0 x1
set_option maxRecDepth 100000 in
theorem f20_ev' {X : Type} (k : Nat) (K : Out → Option X) (x0 : List CV) (x1 : List CV) : evFn (f20_cx) [] k Try.f20.ntmps Try.f20.results.toList (Try.f20.body.getD .skip) [(.sl false none x0), (.sl false none x1)] [] K = f20_T k (fun u => K (f20_out u)) (fun v => iter (loopB (f20_cx) k [.r, .r, .l, .r, .b] (Try.f20.body.getD .skip) (retK (f20_cx) [] Try.f20.results.toList K) []) k (f20_S1 v)) x0 x1 := by kernel_rfl
theorem f20_ev {X : Type} (k : Nat) (K : Out → Option X) (x0 : List CV) (x1 : List CV) : evFn (f20_cx) [] k Try.f20.ntmps Try.f20.results.toList (Try.f20.body.getD .skip) [(.sl false none x0), (.sl false none x1)] [] K = f20_A k X (fun u => K (f20_out u)) x0 x1 := (f20_ev' k K x0 x1).trans (by rw [f20_L1_it k K]; rfl)
theorem f20_okA (k : Nat) : AnsOk Try.prog 20 (f20_cOf (f20_A k)) := by
  intro X xs ns K x h
  unfold f20_cOf at h ⊢
  split at h
  · exact ans_main S (f20_Cok) Try.func20 (ent_of Try.func20 (by kernel_rfl) rfl) rfl (fun X K => f20_ev k K _ _) h
  · cases h
/-- "outpost/outpostref01.Same" -/
def f20 {X : Type} (k : Nat) (K : Bool → Option X) (x0 : List CV) (x1 : List CV) : Option X := f20_A k X K x0 x1
theorem f20_ok (k : Nat) : AnsOk Try.prog 20 (f20_cOf (fun X => @f20 X k)) := f20_okA k
abbrev f5_R : Type 1 := (X : Type) → (Bool → Option X) → Int → Int → (List CV) → Option X
def f5_out (u : Bool) : Out := ⟨(.v (CV.bool u)), []⟩
def f5_cOf (R : f5_R) : FnC := fun X xs ns K => match xs, ns with
  | [(.v (CV.int .i64 x0)), (.v (CV.int .i64 x1)), (.sl true none x2)], [] => R X (fun u => K (f5_out u)) x0 x1 x2
  | _, _ => none
def f5_plan : Nat → Option (List Nat × List Wk)
  | 0 => some ([0, 1, 2], [])
  | 1 => some ([0, 1, 2], [])
  | 2 => some ([], [])
  | 3 => some ([0, 1, 2], [])
  | 4 => some ([], [])
  | 5 => some ([0, 1, 2], [])
  | 6 => some ([1, 2, 7], [])
  | 7 => some ([1, 2, 7], [])
  | 8 => some ([1, 2, 7], [])
  | 9 => some ([1, 2, 7, 8], [])
  | 10 => some ([1, 2, 7, 8, 9], [])
  | 11 => some ([2, 7, 8, 9, 10, 11], [])
  | _ => none
def f5_C (R_f7 : f7_R) (R_f8 : f8_R) (R_f16 : f16_R) (R_f19 : f19_R) (R_f10 : f10_R) (R_f14 : f14_R) (R_f9 : f9_R) (R_f20 : f20_R) : Fns := (orC 7 (f7_cOf R_f7) (orC 8 (f8_cOf R_f8) (orC 9 (f9_cOf R_f9) (orC 10 (f10_cOf R_f10) (orC 14 (f14_cOf R_f14) (orC 16 (f16_cOf R_f16) (orC 19 (f19_cOf R_f19) (orC 20 (f20_cOf R_f20) noC))))))))
theorem f5_Cok (R_f7 : f7_R) (R_f8 : f8_R) (R_f16 : f16_R) (R_f19 : f19_R) (R_f10 : f10_R) (R_f14 : f14_R) (R_f9 : f9_R) (R_f20 : f20_R) (hR_f7 : AnsOk Try.prog 7 (f7_cOf R_f7)) (hR_f8 : AnsOk Try.prog 8 (f8_cOf R_f8)) (hR_f16 : AnsOk Try.prog 16 (f16_cOf R_f16)) (hR_f19 : AnsOk Try.prog 19 (f19_cOf R_f19)) (hR_f10 : AnsOk Try.prog 10 (f10_cOf R_f10)) (hR_f14 : AnsOk Try.prog 14 (f14_cOf R_f14)) (hR_f9 : AnsOk Try.prog 9 (f9_cOf R_f9)) (hR_f20 : AnsOk Try.prog 20 (f20_cOf R_f20)) : CsOk Try.prog (f5_C R_f7 R_f8 R_f16 R_f19 R_f10 R_f14 R_f9 R_f20) := (orC_ok hR_f7 (orC_ok hR_f8 (orC_ok hR_f9 (orC_ok hR_f10 (orC_ok hR_f14 (orC_ok hR_f16 (orC_ok hR_f19 (orC_ok hR_f20 noC_ok))))))))
def f5_cx (R_f7 : f7_R) (R_f8 : f8_R) (R_f16 : f16_R) (R_f19 : f19_R) (R_f10 : f10_R) (R_f14 : f14_R) (R_f9 : f9_R) (R_f20 : f20_R) (hR_f7 : AnsOk Try.prog 7 (f7_cOf R_f7)) (hR_f8 : AnsOk Try.prog 8 (f8_cOf R_f8)) (hR_f16 : AnsOk Try.prog 16 (f16_cOf R_f16)) (hR_f19 : AnsOk Try.prog 19 (f19_cOf R_f19)) (hR_f10 : AnsOk Try.prog 10 (f10_cOf R_f10)) (hR_f14 : AnsOk Try.prog 14 (f14_cOf R_f14)) (hR_f9 : AnsOk Try.prog 9 (f9_cOf R_f9)) (hR_f20 : AnsOk Try.prog 20 (f20_cOf R_f20)) : Cx := mkCx (tabOf rows) (f5_C R_f7 R_f8 R_f16 R_f19 R_f10 R_f14 R_f9 R_f20) md (cmpIn cmps) f5_plan (f5_Cok R_f7 R_f8 R_f16 R_f19 R_f10 R_f14 R_f9 R_f20 hR_f7 hR_f8 hR_f16 hR_f19 hR_f10 hR_f14 hR_f9 hR_f20)
def f5_T {X : Type} (R_f7 : f7_R) (R_f8 : f8_R) (R_f16 : f16_R) (R_f19 : f19_R) (R_f10 : f10_R) (R_f14 : f14_R) (R_f9 : f9_R) (R_f20 : f20_R) (k : Nat) (K : Bool → Option X)  (x0 : Int) (x1 : Int) (x2 : List CV) : Option X :=
R_f7 _ (fun u2 =>
(bif (!u2) then
K (false)
else
(bif (decide (x0 > 64)) then
K (true)
else
(bif (decide ((Nat.cast ((List.length x2)) : Int) > 200)) then
K (true)
else
R_f8 _ (fun u3 =>
R_f16 _ (fun u8 =>
(bif (u8.1 != 0) then
R_f19 _ (fun u9 =>
(bif (u9.1 == 0) then
(bif (decide (x1 < 0)) then
K (true)
else
R_f10 _ (fun u10 =>
(bif (decide (x1 > u10.1)) then
K (true)
else
R_f10 _ (fun u11 =>
K ((decide ((Nat.cast ((List.length x2)) : Int) > (IntKind.wrap .i64 (u11.1 - x1)))))) (u10.2.1) (u10.2.2.1) (u10.2.2.2.1) (u10.2.2.2.2.1) (u10.2.2.2.2.2.1) (u10.2.2.2.2.2.2.1) (u10.2.2.2.2.2.2.2.1) (u10.2.2.2.2.2.2.2.2))) (u9.2.1) (u9.2.2.1) (u9.2.2.2.1) (u9.2.2.2.2.1) (u9.2.2.2.2.2.1) (u9.2.2.2.2.2.2.1) (u9.2.2.2.2.2.2.2.1) (u9.2.2.2.2.2.2.2.2))
else
K (false))) (u8.2.1) (u8.2.2.1) (u8.2.2.2.1) (u8.2.2.2.2.1) (u8.2.2.2.2.2.1) (u8.2.2.2.2.2.2.1) (u8.2.2.2.2.2.2.2.1) (u8.2.2.2.2.2.2.2.2)
else
R_f14 _ (fun u12 =>
R_f16 _ (fun u13 =>
R_f9 _ (fun u14 =>
(bif (u13.1 == 0) then
(bif (u14.2.1 == 0) then
R_f20 _ (fun u15 =>
(bif u15 then
R_f14 _ (fun u16 =>
R_f20 _ (fun u17 =>
(bif u17 then
R_f19 _ (fun u18 =>
K ((u18.1 == (IntKind.wrap .i64 (2 * (Nat.cast ((List.length x2)) : Int)))))) (u16.2.1) (u16.2.2.1) (u16.2.2.2.1) (u16.2.2.2.2.1) (u16.2.2.2.2.2.1) (u16.2.2.2.2.2.2.1) (u16.2.2.2.2.2.2.2.1) (u16.2.2.2.2.2.2.2.2.1)
else
K (false))) ((List.take u16.1 (List.drop 0 u16.2.2.2.2.2.2.2.2.2))) ((List.take u12.1 (List.drop 0 u12.2.2.2.2.2.2.2.2.2)))) (u14.2.2.1) (u14.2.2.2.1) (u14.2.2.2.2.1) (u14.2.2.2.2.2.1) (u14.2.2.2.2.2.2.1) (u14.2.2.2.2.2.2.2.1) (u14.2.2.2.2.2.2.2.2.1) (u14.2.2.2.2.2.2.2.2.2.1)
else
K (false))) ((List.take u14.1 (List.drop 0 u14.2.2.2.2.2.2.2.2.2.2))) (x2)
else
K (false))
else
K (false))) (x1) ((Nat.cast ((List.length x2)) : Int)) (u13.2.1) (u13.2.2.1) (u13.2.2.2.1) (u13.2.2.2.2.1) (u13.2.2.2.2.2.1) (u13.2.2.2.2.2.2.1) (u13.2.2.2.2.2.2.2.1) (u13.2.2.2.2.2.2.2.2)) (x1) (x2) (u12.2.1) (u12.2.2.1) (u12.2.2.2.1) (u12.2.2.2.2.1) (u12.2.2.2.2.2.1) (u12.2.2.2.2.2.2.1) (u12.2.2.2.2.2.2.2.1) (u12.2.2.2.2.2.2.2.2.1)) (u8.2.1) (u8.2.2.1) (u8.2.2.2.1) (u8.2.2.2.2.1) (u8.2.2.2.2.2.1) (u8.2.2.2.2.2.2.1) (u8.2.2.2.2.2.2.2.1) (u8.2.2.2.2.2.2.2.2))) (x1) (x2) (u3.1) (u3.2.1) (u3.2.2.1) (0) ((-1)) (false) (u3.2.2.2.1) (u3.2.2.2.2)) (4) (x0))))) 
/-- "outpost/outpostlaw03.FlashAgain" -/
def f5_A (R_f7 : f7_R) (R_f8 : f8_R) (R_f16 : f16_R) (R_f19 : f19_R) (R_f10 : f10_R) (R_f14 : f14_R) (R_f9 : f9_R) (R_f20 : f20_R) (k : Nat) : f5_R := fun X K x0 x1 x2 => f5_T R_f7 R_f8 R_f16 R_f19 R_f10 R_f14 R_f9 R_f20 k K  x0 x1 x2
set_option maxRecDepth 100000 in
theorem f5_ev' {X : Type} (R_f7 : f7_R) (R_f8 : f8_R) (R_f16 : f16_R) (R_f19 : f19_R) (R_f10 : f10_R) (R_f14 : f14_R) (R_f9 : f9_R) (R_f20 : f20_R) (hR_f7 : AnsOk Try.prog 7 (f7_cOf R_f7)) (hR_f8 : AnsOk Try.prog 8 (f8_cOf R_f8)) (hR_f16 : AnsOk Try.prog 16 (f16_cOf R_f16)) (hR_f19 : AnsOk Try.prog 19 (f19_cOf R_f19)) (hR_f10 : AnsOk Try.prog 10 (f10_cOf R_f10)) (hR_f14 : AnsOk Try.prog 14 (f14_cOf R_f14)) (hR_f9 : AnsOk Try.prog 9 (f9_cOf R_f9)) (hR_f20 : AnsOk Try.prog 20 (f20_cOf R_f20)) (k : Nat) (K : Out → Option X) (x0 : Int) (x1 : Int) (x2 : List CV) : evFn (f5_cx R_f7 R_f8 R_f16 R_f19 R_f10 R_f14 R_f9 R_f20 hR_f7 hR_f8 hR_f16 hR_f19 hR_f10 hR_f14 hR_f9 hR_f20) [] k Try.f5.ntmps Try.f5.results.toList (Try.f5.body.getD .skip) [(.v (CV.int .i64 x0)), (.v (CV.int .i64 x1)), (.sl true none x2)] [] K = f5_T R_f7 R_f8 R_f16 R_f19 R_f10 R_f14 R_f9 R_f20 k (fun u => K (f5_out u)) x0 x1 x2 := by kernel_rfl
theorem f5_ev {X : Type} (R_f7 : f7_R) (R_f8 : f8_R) (R_f16 : f16_R) (R_f19 : f19_R) (R_f10 : f10_R) (R_f14 : f14_R) (R_f9 : f9_R) (R_f20 : f20_R) (hR_f7 : AnsOk Try.prog 7 (f7_cOf R_f7)) (hR_f8 : AnsOk Try.prog 8 (f8_cOf R_f8)) (hR_f16 : AnsOk Try.prog 16 (f16_cOf R_f16)) (hR_f19 : AnsOk Try.prog 19 (f19_cOf R_f19)) (hR_f10 : AnsOk Try.prog 10 (f10_cOf R_f10)) (hR_f14 : AnsOk Try.prog 14 (f14_cOf R_f14)) (hR_f9 : AnsOk Try.prog 9 (f9_cOf R_f9)) (hR_f20 : AnsOk Try.prog 20 (f20_cOf R_f20)) (k : Nat) (K : Out → Option X) (x0 : Int) (x1 : Int) (x2 : List CV) : evFn (f5_cx R_f7 R_f8 R_f16 R_f19 R_f10 R_f14 R_f9 R_f20 hR_f7 hR_f8 hR_f16 hR_f19 hR_f10 hR_f14 hR_f9 hR_f20) [] k Try.f5.ntmps Try.f5.results.toList (Try.f5.body.getD .skip) [(.v (CV.int .i64 x0)), (.v (CV.int .i64 x1)), (.sl true none x2)] [] K = f5_A R_f7 R_f8 R_f16 R_f19 R_f10 R_f14 R_f9 R_f20 k X (fun u => K (f5_out u)) x0 x1 x2 := (f5_ev' R_f7 R_f8 R_f16 R_f19 R_f10 R_f14 R_f9 R_f20 hR_f7 hR_f8 hR_f16 hR_f19 hR_f10 hR_f14 hR_f9 hR_f20 k K x0 x1 x2).trans rfl
theorem f5_okA (R_f7 : f7_R) (R_f8 : f8_R) (R_f16 : f16_R) (R_f19 : f19_R) (R_f10 : f10_R) (R_f14 : f14_R) (R_f9 : f9_R) (R_f20 : f20_R) (hR_f7 : AnsOk Try.prog 7 (f7_cOf R_f7)) (hR_f8 : AnsOk Try.prog 8 (f8_cOf R_f8)) (hR_f16 : AnsOk Try.prog 16 (f16_cOf R_f16)) (hR_f19 : AnsOk Try.prog 19 (f19_cOf R_f19)) (hR_f10 : AnsOk Try.prog 10 (f10_cOf R_f10)) (hR_f14 : AnsOk Try.prog 14 (f14_cOf R_f14)) (hR_f9 : AnsOk Try.prog 9 (f9_cOf R_f9)) (hR_f20 : AnsOk Try.prog 20 (f20_cOf R_f20)) (k : Nat) : AnsOk Try.prog 5 (f5_cOf (f5_A R_f7 R_f8 R_f16 R_f19 R_f10 R_f14 R_f9 R_f20 k)) := by
  intro X xs ns K x h
  unfold f5_cOf at h ⊢
  split at h
  · exact ans_main S (f5_Cok R_f7 R_f8 R_f16 R_f19 R_f10 R_f14 R_f9 R_f20 hR_f7 hR_f8 hR_f16 hR_f19 hR_f10 hR_f14 hR_f9 hR_f20) Try.func5 (ent_of Try.func5 (by kernel_rfl) rfl) rfl (fun X K => f5_ev R_f7 R_f8 R_f16 R_f19 R_f10 R_f14 R_f9 R_f20 hR_f7 hR_f8 hR_f16 hR_f19 hR_f10 hR_f14 hR_f9 hR_f20 k K _ _ _) h
  · cases h
/-- "outpost/outpostlaw03.FlashAgain" -/
def f5 {X : Type} (k : Nat) (K : Bool → Option X) (x0 : Int) (x1 : Int) (x2 : List CV) : Option X := f5_A (fun X => @f7 X k) (fun X => @f8 X k) (fun X => @f16 X k) (fun X => @f19 X k) (fun X => @f10 X k) (fun X => @f14 X k) (fun X => @f9 X k) (fun X => @f20 X k) k X K x0 x1 x2
theorem f5_ok (k : Nat) : AnsOk Try.prog 5 (f5_cOf (fun X => @f5 X k)) := f5_okA (fun X => @f7 X k) (fun X => @f8 X k) (fun X => @f16 X k) (fun X => @f19 X k) (fun X => @f10 X k) (fun X => @f14 X k) (fun X => @f9 X k) (fun X => @f20 X k) (f7_ok k) (f8_ok k) (f16_ok k) (f19_ok k) (f10_ok k) (f14_ok k) (f9_ok k) (f20_ok k) k
abbrev f21_R : Type 1 := (X : Type) → (Nat × Int × Nat × Int × (List CV) × (List CV) → Option X) → (List CV) → Nat → Int → Nat → Int → Int → Bool → (List CV) → (List CV) → Option X
def f21_out (u : Nat × Int × Nat × Int × (List CV) × (List CV)) : Out := ⟨(.tup []), [([1000], (.obj [(.osl [0, 1000] none 0 u.1), (.v (CV.int .i64 u.2.1)), (.osl [2, 1000] none 0 u.2.2.1), (.v (CV.int .i64 u.2.2.2.1)), (.v (CV.int .i64 (-1))), (.v (CV.bool false))])), ([0, 1000], (.row false none u.2.2.2.2.1)), ([2, 1000], (.row false none u.2.2.2.2.2))]⟩
def f21_cOf (R : f21_R) : FnC := fun X xs ns K => match xs, ns with
  | [(.ptr [1000] 0 0 0), (.sl false none x0)], [([1000], (.obj [(.osl [0, 1000] none 0 x1), (.v (CV.int .i64 x2)), (.osl [2, 1000] none 0 x3), (.v (CV.int .i64 x4)), (.v (CV.int .i64 x5)), (.v (CV.bool x6))])), ([0, 1000], (.row false none x7)), ([2, 1000], (.row false none x8))] => R X (fun u => K (f21_out u)) x0 x1 x2 x3 x4 x5 x6 x7 x8
  | _, _ => none
def f21_plan : Nat → Option (List Nat × List Wk)
  | 0 => some ([0, 1], [])
  | 1 => some ([0], [])
  | _ => none
def f21_C (R_f18 : f18_R) : Fns := (orC 18 (f18_cOf R_f18) noC)
theorem f21_Cok (R_f18 : f18_R) (hR_f18 : AnsOk Try.prog 18 (f18_cOf R_f18)) : CsOk Try.prog (f21_C R_f18) := (orC_ok hR_f18 noC_ok)
def f21_cx (R_f18 : f18_R) (hR_f18 : AnsOk Try.prog 18 (f18_cOf R_f18)) : Cx := mkCx (tabOf rows) (f21_C R_f18) md (cmpIn cmps) f21_plan (f21_Cok R_f18 hR_f18)
def f21_T {X : Type} (R_f18 : f18_R) (k : Nat) (K : Nat × Int × Nat × Int × (List CV) × (List CV) → Option X)  (x0 : List CV) (x1 : Nat) (x2 : Int) (x3 : Nat) (x4 : Int) (x5 : Int) (x6 : Bool) (x7 : List CV) (x8 : List CV) : Option X :=
grd (decide ((0 + x1) ≤ (List.length x7))) <|
R_f18 _ (fun u1 =>
K (u1.1, u1.2.1, u1.2.2.1, u1.2.2.2.1, (List.take (0 + u1.1) u1.2.2.2.2.1), (List.take (0 + u1.2.2.1) u1.2.2.2.2.2))) (x1) (x2) (x3) (x4) (x5) (x6) (((List.take 0 x7) ++ (List.take (min (List.length x0) x1) x0) ++ (List.drop (0 + (min (List.length x0) x1)) x7))) (x8)
/-- "(*outpost/flash.Flash).Load" -/
def f21_A (R_f18 : f18_R) (k : Nat) : f21_R := fun X K x0 x1 x2 x3 x4 x5 x6 x7 x8 => f21_T R_f18 k K  x0 x1 x2 x3 x4 x5 x6 x7 x8
set_option maxRecDepth 100000 in
theorem f21_ev' {X : Type} (R_f18 : f18_R) (hR_f18 : AnsOk Try.prog 18 (f18_cOf R_f18)) (k : Nat) (K : Out → Option X) (x0 : List CV) (x1 : Nat) (x2 : Int) (x3 : Nat) (x4 : Int) (x5 : Int) (x6 : Bool) (x7 : List CV) (x8 : List CV) : evFn (f21_cx R_f18 hR_f18) [] k Try.f21.ntmps Try.f21.results.toList (Try.f21.body.getD .skip) [(.ptr [1000] 0 0 0), (.sl false none x0)] [([1000], (.obj [(.osl [0, 1000] none 0 x1), (.v (CV.int .i64 x2)), (.osl [2, 1000] none 0 x3), (.v (CV.int .i64 x4)), (.v (CV.int .i64 x5)), (.v (CV.bool x6))])), ([0, 1000], (.row false none x7)), ([2, 1000], (.row false none x8))] K = f21_T R_f18 k (fun u => K (f21_out u)) x0 x1 x2 x3 x4 x5 x6 x7 x8 := by kernel_rfl
theorem f21_ev {X : Type} (R_f18 : f18_R) (hR_f18 : AnsOk Try.prog 18 (f18_cOf R_f18)) (k : Nat) (K : Out → Option X) (x0 : List CV) (x1 : Nat) (x2 : Int) (x3 : Nat) (x4 : Int) (x5 : Int) (x6 : Bool) (x7 : List CV) (x8 : List CV) : evFn (f21_cx R_f18 hR_f18) [] k Try.f21.ntmps Try.f21.results.toList (Try.f21.body.getD .skip) [(.ptr [1000] 0 0 0), (.sl false none x0)] [([1000], (.obj [(.osl [0, 1000] none 0 x1), (.v (CV.int .i64 x2)), (.osl [2, 1000] none 0 x3), (.v (CV.int .i64 x4)), (.v (CV.int .i64 x5)), (.v (CV.bool x6))])), ([0, 1000], (.row false none x7)), ([2, 1000], (.row false none x8))] K = f21_A R_f18 k X (fun u => K (f21_out u)) x0 x1 x2 x3 x4 x5 x6 x7 x8 := (f21_ev' R_f18 hR_f18 k K x0 x1 x2 x3 x4 x5 x6 x7 x8).trans rfl
theorem f21_okA (R_f18 : f18_R) (hR_f18 : AnsOk Try.prog 18 (f18_cOf R_f18)) (k : Nat) : AnsOk Try.prog 21 (f21_cOf (f21_A R_f18 k)) := by
  intro X xs ns K x h
  unfold f21_cOf at h ⊢
  split at h
  · exact ans_main S (f21_Cok R_f18 hR_f18) Try.func21 (ent_of Try.func21 (by kernel_rfl) rfl) rfl (fun X K => f21_ev R_f18 hR_f18 k K _ _ _ _ _ _ _ _ _) h
  · cases h
/-- "(*outpost/flash.Flash).Load" -/
def f21 {X : Type} (k : Nat) (K : Nat × Int × Nat × Int × (List CV) × (List CV) → Option X) (x0 : List CV) (x1 : Nat) (x2 : Int) (x3 : Nat) (x4 : Int) (x5 : Int) (x6 : Bool) (x7 : List CV) (x8 : List CV) : Option X := f21_A (fun X => @f18 X k) k X K x0 x1 x2 x3 x4 x5 x6 x7 x8
theorem f21_ok (k : Nat) : AnsOk Try.prog 21 (f21_cOf (fun X => @f21 X k)) := f21_okA (fun X => @f18 X k) (f18_ok k) k
abbrev f6_R : Type 1 := (X : Type) → (Bool → Option X) → Int → (List CV) → Int → (List CV) → Int → Int → Option X
def f6_out (u : Bool) : Out := ⟨(.v (CV.bool u)), []⟩
def f6_cOf (R : f6_R) : FnC := fun X xs ns K => match xs, ns with
  | [(.v (CV.int .i64 x0)), (.sl true none x1), (.v (CV.int .i64 x2)), (.sl true none x3), (.v (CV.int .i64 x4)), (.v (CV.int .i64 x5))], [] => R X (fun u => K (f6_out u)) x0 x1 x2 x3 x4 x5
  | _, _ => none
def f6_plan : Nat → Option (List Nat × List Wk)
  | 0 => some ([0, 1, 2, 3, 4, 5], [])
  | 1 => some ([0, 1, 2, 3, 4, 5], [])
  | 2 => some ([], [])
  | 3 => some ([0, 1, 2, 3, 4, 5], [])
  | 4 => some ([], [])
  | 5 => some ([0, 1, 2, 3, 4, 5], [])
  | 6 => some ([1, 2, 3, 4, 5, 13], [])
  | 7 => some ([2, 3, 4, 5, 13], [])
  | 8 => some ([2, 3, 4, 5, 13, 14], [])
  | 9 => some ([2, 3, 4, 5, 13, 14], [])
  | 10 => some ([2, 3, 4, 5, 13, 14], [])
  | 11 => some ([2, 3, 4, 5, 13, 14, 15], [])
  | 12 => some ([2, 3, 4, 5, 13, 14, 15, 16], [])
  | 13 => some ([2, 3, 4, 5, 13, 14, 15, 16, 58, 59], [])
  | 14 => some ([2, 3, 4, 5, 13, 14, 15, 16, 58, 59], [])
  | 15 => some ([2, 3, 4, 5, 13, 14, 15, 16, 17, 58, 59], [])
  | 16 => some ([2, 3, 4, 5, 13, 14, 15, 16, 17, 18, 58, 59], [])
  | 17 => some ([2, 3, 4, 5, 13, 14, 15, 16, 17, 18, 19, 58, 59], [])
  | 18 => some ([2, 3, 4, 5, 13, 14, 15, 16, 17, 19, 58, 59], [])
  | 19 => some ([2, 3, 4, 5, 13, 14, 15, 16, 17, 18, 58, 59], [])
  | 20 => some ([], [])
  | 21 => some ([2, 3, 4, 5, 13, 14, 15, 16, 58, 59], [])
  | 22 => some ([4, 5, 13, 15, 16], [])
  | 23 => some ([], [])
  | 24 => some ([4, 5, 13, 16], [])
  | 25 => some ([4, 5, 13, 16], [])
  | 26 => some ([4, 5, 13, 16], [])
  | 27 => some ([4, 5, 13, 16], [])
  | 28 => some ([4, 5, 13, 16, 20], [])
  | 29 => some ([4, 5, 13, 16, 20, 21], [])
  | 30 => some ([4, 5, 13, 16, 20, 21, 123, 124], [])
  | 31 => some ([4, 5, 13, 16, 20, 21, 123, 124], [])
  | 32 => some ([4, 5, 13, 16, 20, 21, 22, 123, 124], [])
  | 33 => some ([4, 5, 13, 16, 20, 21, 22, 23, 123, 124], [])
  | 34 => some ([4, 5, 13, 16, 20, 21, 22, 23, 24, 123, 124], [])
  | 35 => some ([4, 5, 13, 16, 20, 21, 22, 123, 124], [])
  | 36 => some ([4, 5, 13, 16, 20, 21, 22, 23, 123, 124], [])
  | 37 => some ([], [])
  | 38 => some ([4, 5, 13, 16, 20, 21, 123, 124], [])
  | 39 => some ([4, 5, 13, 20], [])
  | _ => none
def f6_C (R_f7 : f7_R) (R_f8 : f8_R) (R_f21 : f21_R) (R_f14 : f14_R) (R_f17 : f17_R) (R_f16 : f16_R) (R_f22 : f22_R) (R_f18 : f18_R) (R_f12 : f12_R) (R_f11 : f11_R) (R_f23 : f23_R) : Fns := (orC 7 (f7_cOf R_f7) (orC 8 (f8_cOf R_f8) (orC 11 (f11_cOf R_f11) (orC 12 (f12_cOf R_f12) (orC 14 (f14_cOf R_f14) (orC 16 (f16_cOf R_f16) (orC 17 (f17_cOf R_f17) (orC 18 (f18_cOf R_f18) (orC 21 (f21_cOf R_f21) (orC 22 (f22_cOf R_f22) (orC 23 (f23_cOf R_f23) noC)))))))))))
theorem f6_Cok (R_f7 : f7_R) (R_f8 : f8_R) (R_f21 : f21_R) (R_f14 : f14_R) (R_f17 : f17_R) (R_f16 : f16_R) (R_f22 : f22_R) (R_f18 : f18_R) (R_f12 : f12_R) (R_f11 : f11_R) (R_f23 : f23_R) (hR_f7 : AnsOk Try.prog 7 (f7_cOf R_f7)) (hR_f8 : AnsOk Try.prog 8 (f8_cOf R_f8)) (hR_f21 : AnsOk Try.prog 21 (f21_cOf R_f21)) (hR_f14 : AnsOk Try.prog 14 (f14_cOf R_f14)) (hR_f17 : AnsOk Try.prog 17 (f17_cOf R_f17)) (hR_f16 : AnsOk Try.prog 16 (f16_cOf R_f16)) (hR_f22 : AnsOk Try.prog 22 (f22_cOf R_f22)) (hR_f18 : AnsOk Try.prog 18 (f18_cOf R_f18)) (hR_f12 : AnsOk Try.prog 12 (f12_cOf R_f12)) (hR_f11 : AnsOk Try.prog 11 (f11_cOf R_f11)) (hR_f23 : AnsOk Try.prog 23 (f23_cOf R_f23)) : CsOk Try.prog (f6_C R_f7 R_f8 R_f21 R_f14 R_f17 R_f16 R_f22 R_f18 R_f12 R_f11 R_f23) := (orC_ok hR_f7 (orC_ok hR_f8 (orC_ok hR_f11 (orC_ok hR_f12 (orC_ok hR_f14 (orC_ok hR_f16 (orC_ok hR_f17 (orC_ok hR_f18 (orC_ok hR_f21 (orC_ok hR_f22 (orC_ok hR_f23 noC_ok)))))))))))
def f6_cx (R_f7 : f7_R) (R_f8 : f8_R) (R_f21 : f21_R) (R_f14 : f14_R) (R_f17 : f17_R) (R_f16 : f16_R) (R_f22 : f22_R) (R_f18 : f18_R) (R_f12 : f12_R) (R_f11 : f11_R) (R_f23 : f23_R) (hR_f7 : AnsOk Try.prog 7 (f7_cOf R_f7)) (hR_f8 : AnsOk Try.prog 8 (f8_cOf R_f8)) (hR_f21 : AnsOk Try.prog 21 (f21_cOf R_f21)) (hR_f14 : AnsOk Try.prog 14 (f14_cOf R_f14)) (hR_f17 : AnsOk Try.prog 17 (f17_cOf R_f17)) (hR_f16 : AnsOk Try.prog 16 (f16_cOf R_f16)) (hR_f22 : AnsOk Try.prog 22 (f22_cOf R_f22)) (hR_f18 : AnsOk Try.prog 18 (f18_cOf R_f18)) (hR_f12 : AnsOk Try.prog 12 (f12_cOf R_f12)) (hR_f11 : AnsOk Try.prog 11 (f11_cOf R_f11)) (hR_f23 : AnsOk Try.prog 23 (f23_cOf R_f23)) : Cx := mkCx (tabOf rows) (f6_C R_f7 R_f8 R_f21 R_f14 R_f17 R_f16 R_f22 R_f18 R_f12 R_f11 R_f23) md (cmpIn cmps) f6_plan (f6_Cok R_f7 R_f8 R_f21 R_f14 R_f17 R_f16 R_f22 R_f18 R_f12 R_f11 R_f23 hR_f7 hR_f8 hR_f21 hR_f14 hR_f17 hR_f16 hR_f22 hR_f18 hR_f12 hR_f11 hR_f23)
def f6_S1 (v : Int × (List CV) × Int × Int × Nat × Int × Nat × Int × Int × (List CV) × (List CV) × Nat × Int × Nat × Int × Int × Bool × (List CV) × (List CV)) : St := ⟨[.undef, .undef, (.v (CV.int .i64 v.1)), (.sl true none v.2.1), (.v (CV.int .i64 v.2.2.1)), (.v (CV.int .i64 v.2.2.2.1)), .undef, .undef, .undef, .undef, .undef, .undef, .undef, (.ptr [40] 0 0 0), (.osl [14] none 0 v.2.2.2.2.1), (.v (CV.int .i64 v.2.2.2.2.2.1)), (.osl [16] none 0 v.2.2.2.2.2.2.1), .undef, .undef, .undef, .undef, .undef, .undef, .undef, .undef, .undef, .undef, .undef, .undef, .undef, .undef, .undef, .undef, .undef, .undef, .undef, .undef, .undef, .undef, .undef, .undef, .undef, .undef, .undef, .undef, .undef, .undef, .undef, .undef, .undef, .undef, .undef, .undef, .undef, .undef, .undef, .undef, .undef, (.v (CV.int .i64 v.2.2.2.2.2.2.2.1)), (.v (CV.int .i64 v.2.2.2.2.2.2.2.2.1)), .undef, .undef, .undef, .undef, .undef, .undef, .undef, .undef, .undef, .undef, .undef, .undef, .undef, .undef, .undef, .undef, .undef, .undef, .undef, .undef, .undef, .undef, .undef, .undef, .undef, .undef, .undef, .undef, .undef, .undef, .undef, .undef, .undef, .undef, .undef, .undef, .undef, .undef, .undef, .undef, .undef, .undef, .undef, .undef, .undef, .undef, .undef, .undef, .undef, .undef, .undef, .undef, .undef, .undef, .undef, .undef, .undef, .undef, .undef, .undef, .undef, .undef, .undef, .undef, .undef, .undef, .undef, .undef, .undef, .undef, .undef, .undef, .undef, .undef, .undef, .undef, .undef, .undef, .undef, .undef, .undef, .undef, .undef, .undef, .undef, .undef, .undef, .undef, .undef, .undef, .undef, .undef, .undef, .undef, .undef, .undef, .undef, .undef, .undef, .undef, .undef, .undef, .undef, .undef, .undef, .undef, .undef, .undef, .undef, .undef], [([14], (.row false none v.2.2.2.2.2.2.2.2.2.1)), ([16], (.row false none v.2.2.2.2.2.2.2.2.2.2.1)), ([40], (.obj [(.osl [0, 40] none 0 v.2.2.2.2.2.2.2.2.2.2.2.1), (.v (CV.int .i64 v.2.2.2.2.2.2.2.2.2.2.2.2.1)), (.osl [2, 40] none 0 v.2.2.2.2.2.2.2.2.2.2.2.2.2.1), (.v (CV.int .i64 v.2.2.2.2.2.2.2.2.2.2.2.2.2.2.1)), (.v (CV.int .i64 v.2.2.2.2.2.2.2.2.2.2.2.2.2.2.2.1)), (.v (CV.bool v.2.2.2.2.2.2.2.2.2.2.2.2.2.2.2.2.1))])), ([0, 40], (.row false none v.2.2.2.2.2.2.2.2.2.2.2.2.2.2.2.2.2.1)), ([2, 40], (.row false none v.2.2.2.2.2.2.2.2.2.2.2.2.2.2.2.2.2.2))]⟩
def f6_S2 (v : Int × Int × Nat × Int × Nat × Int × Int × (List CV) × (List CV) × Nat × Int × Nat × Int × Int × Bool × (List CV) × (List CV)) : St := ⟨[.undef, .undef, .undef, .undef, (.v (CV.int .i64 v.1)), (.v (CV.int .i64 v.2.1)), .undef, .undef, .undef, .undef, .undef, .undef, .undef, (.ptr [40] 0 0 0), .undef, .undef, (.osl [16] none 0 v.2.2.1), .undef, .undef, .undef, (.v (CV.int .i64 v.2.2.2.1)), (.osl [21] none 0 v.2.2.2.2.1), .undef, .undef, .undef, .undef, .undef, .undef, .undef, .undef, .undef, .undef, .undef, .undef, .undef, .undef, .undef, .undef, .undef, .undef, .undef, .undef, .undef, .undef, .undef, .undef, .undef, .undef, .undef, .undef, .undef, .undef, .undef, .undef, .undef, .undef, .undef, .undef, .undef, .undef, .undef, .undef, .undef, .undef, .undef, .undef, .undef, .undef, .undef, .undef, .undef, .undef, .undef, .undef, .undef, .undef, .undef, .undef, .undef, .undef, .undef, .undef, .undef, .undef, .undef, .undef, .undef, .undef, .undef, .undef, .undef, .undef, .undef, .undef, .undef, .undef, .undef, .undef, .undef, .undef, .undef, .undef, .undef, .undef, .undef, .undef, .undef, .undef, .undef, .undef, .undef, .undef, .undef, .undef, .undef, .undef, .undef, .undef, .undef, .undef, .undef, .undef, .undef, (.v (CV.int .i64 v.2.2.2.2.2.1)), (.v (CV.int .i64 v.2.2.2.2.2.2.1)), .undef, .undef, .undef, .undef, .undef, .undef, .undef, .undef, .undef, .undef, .undef, .undef, .undef, .undef, .undef, .undef, .undef, .undef, .undef, .undef, .undef, .undef, .undef, .undef, .undef, .undef, .undef, .undef, .undef, .undef, .undef, .undef, .undef, .undef, .undef, .undef, .undef, .undef, .undef, .undef, .undef, .undef, .undef, .undef, .undef], [([16], (.row false none v.2.2.2.2.2.2.2.1)), ([21], (.row false none v.2.2.2.2.2.2.2.2.1)), ([40], (.obj [(.osl [0, 40] none 0 v.2.2.2.2.2.2.2.2.2.1), (.v (CV.int .i64 v.2.2.2.2.2.2.2.2.2.2.1)), (.osl [2, 40] none 0 v.2.2.2.2.2.2.2.2.2.2.2.1), (.v (CV.int .i64 v.2.2.2.2.2.2.2.2.2.2.2.2.1)), (.v (CV.int .i64 v.2.2.2.2.2.2.2.2.2.2.2.2.2.1)), (.v (CV.bool v.2.2.2.2.2.2.2.2.2.2.2.2.2.2.1))])), ([0, 40], (.row false none v.2.2.2.2.2.2.2.2.2.2.2.2.2.2.2.1)), ([2, 40], (.row false none v.2.2.2.2.2.2.2.2.2.2.2.2.2.2.2.2))]⟩
def f6_J1 {X : Type} (R_f7 : f7_R) (R_f8 : f8_R) (R_f21 : f21_R) (R_f14 : f14_R) (R_f17 : f17_R) (R_f16 : f16_R) (R_f22 : f22_R) (R_f18 : f18_R) (R_f12 : f12_R) (R_f11 : f11_R) (R_f23 : f23_R) (k : Nat) (K : Bool → Option X) (rec1 : Int × (List CV) × Int × Int × Nat × Int × Nat × Int × Int × (List CV) × (List CV) × Nat × Int × Nat × Int × Int × Bool × (List CV) × (List CV) → Option X) (v13_8 : Int × (List CV) × Int × Int × Nat × Int × Nat × Int × Int × (List CV) × (List CV) × Nat × Int × Nat × Int × Int × Bool × (List CV) × (List CV)) (v31 : Int) : Option X :=
grd (decide (0 ≤ v13_8.2.2.2.2.2.2.2.2.1)) <|
grd (decide (v13_8.2.2.2.2.2.2.2.2.1 < (Nat.cast (v13_8.2.2.2.2.2.2.1) : Int))) <|
Option.bind (v13_8.2.2.2.2.2.2.2.2.2.2.1)[(0 + (Int.toNat v13_8.2.2.2.2.2.2.2.2.1))]? fun e32 =>
grd (CV.isI .u8 e32) <|
(bif ((CV.toI e32) != v31) then
K (false)
else
rec1 (v13_8.1, v13_8.2.1, v13_8.2.2.1, v13_8.2.2.2.1, v13_8.2.2.2.2.1, v13_8.2.2.2.2.2.1, v13_8.2.2.2.2.2.2.1, v13_8.2.2.2.2.2.2.2.1, (IntKind.wrap .i64 (v13_8.2.2.2.2.2.2.2.2.1 + 1)), v13_8.2.2.2.2.2.2.2.2.2.1, v13_8.2.2.2.2.2.2.2.2.2.2.1, v13_8.2.2.2.2.2.2.2.2.2.2.2.1, v13_8.2.2.2.2.2.2.2.2.2.2.2.2.1, v13_8.2.2.2.2.2.2.2.2.2.2.2.2.2.1, v13_8.2.2.2.2.2.2.2.2.2.2.2.2.2.2.1, v13_8.2.2.2.2.2.2.2.2.2.2.2.2.2.2.2.1, v13_8.2.2.2.2.2.2.2.2.2.2.2.2.2.2.2.2.1, v13_8.2.2.2.2.2.2.2.2.2.2.2.2.2.2.2.2.2.1, v13_8.2.2.2.2.2.2.2.2.2.2.2.2.2.2.2.2.2.2))
def f6_J2 {X : Type} (R_f7 : f7_R) (R_f8 : f8_R) (R_f21 : f21_R) (R_f14 : f14_R) (R_f17 : f17_R) (R_f16 : f16_R) (R_f22 : f22_R) (R_f18 : f18_R) (R_f12 : f12_R) (R_f11 : f11_R) (R_f23 : f23_R) (k : Nat) (K : Bool → Option X) (rec2 : Int × Int × Nat × Int × Nat × Int × Int × (List CV) × (List CV) × Nat × Int × Nat × Int × Int × Bool × (List CV) × (List CV) → Option X) (v20_40 : Int × Int × Nat × Int × Nat × Int × Int × (List CV) × (List CV) × Nat × Int × Nat × Int × Int × Bool × (List CV) × (List CV)) (v63 : Int × Nat × Int × Nat × Int × Int × Bool × (List CV) × (List CV)) : Option X :=
grd (decide (0 ≤ v20_40.2.2.2.2.2.2.1)) <|
grd (decide (v20_40.2.2.2.2.2.2.1 < (Nat.cast (v20_40.2.2.2.2.1) : Int))) <|
Option.bind (v20_40.2.2.2.2.2.2.2.2.1)[(0 + (Int.toNat v20_40.2.2.2.2.2.2.1))]? fun e64 =>
grd (CV.isI .u8 e64) <|
(bif ((CV.toI e64) != v63.1) then
K (false)
else
rec2 (v20_40.1, v20_40.2.1, v20_40.2.2.1, v20_40.2.2.2.1, v20_40.2.2.2.2.1, v20_40.2.2.2.2.2.1, (IntKind.wrap .i64 (v20_40.2.2.2.2.2.2.1 + 1)), v20_40.2.2.2.2.2.2.2.1, v20_40.2.2.2.2.2.2.2.2.1, v63.2.1, v63.2.2.1, v63.2.2.2.1, v63.2.2.2.2.1, v63.2.2.2.2.2.1, v63.2.2.2.2.2.2.1, v63.2.2.2.2.2.2.2.1, v63.2.2.2.2.2.2.2.2))
def f6_T2 {X : Type} (R_f7 : f7_R) (R_f8 : f8_R) (R_f21 : f21_R) (R_f14 : f14_R) (R_f17 : f17_R) (R_f16 : f16_R) (R_f22 : f22_R) (R_f18 : f18_R) (R_f12 : f12_R) (R_f11 : f11_R) (R_f23 : f23_R) (k : Nat) (K : Bool → Option X)   (rec2 : Int × Int × Nat × Int × Nat × Int × Int × (List CV) × (List CV) × Nat × Int × Nat × Int × Int × Bool × (List CV) × (List CV) → Option X) (v20_40 : Int × Int × Nat × Int × Nat × Int × Int × (List CV) × (List CV) × Nat × Int × Nat × Int × Int × Bool × (List CV) × (List CV)) : Option X :=
(bif (decide (v20_40.2.2.2.2.2.2.1 < v20_40.2.2.2.2.2.1)) then
grd (decide (0 ≤ v20_40.2.2.2.2.2.2.1)) <|
grd (decide (v20_40.2.2.2.2.2.2.1 < (Nat.cast (v20_40.2.2.1) : Int))) <|
Option.bind (v20_40.2.2.2.2.2.2.2.1)[(0 + (Int.toNat v20_40.2.2.2.2.2.2.1))]? fun e60 =>
grd (CV.isI .u8 e60) <|
R_f11 _ (fun u65 =>
(bif (decide ((IntKind.wrap .i64 (v20_40.2.2.2.2.2.2.1 - (IntKind.wrap .i64 (v20_40.1 * u65.1)))) ≥ 0)) then
R_f11 _ (fun u66 =>
(bif (decide ((IntKind.wrap .i64 (v20_40.2.2.2.2.2.2.1 - (IntKind.wrap .i64 (v20_40.1 * u65.1)))) < u66.1)) then
(bif (decide ((IntKind.wrap .i64 (v20_40.2.2.2.2.2.2.1 - (IntKind.wrap .i64 (v20_40.1 * u65.1)))) < v20_40.2.1)) then
f6_J2 R_f7 R_f8 R_f21 R_f14 R_f17 R_f16 R_f22 R_f18 R_f12 R_f11 R_f23 k K rec2 v20_40 (255, u66.2.1, u66.2.2.1, u66.2.2.2.1, u66.2.2.2.2.1, u66.2.2.2.2.2.1, u66.2.2.2.2.2.2.1, u66.2.2.2.2.2.2.2.1, u66.2.2.2.2.2.2.2.2)
else
f6_J2 R_f7 R_f8 R_f21 R_f14 R_f17 R_f16 R_f22 R_f18 R_f12 R_f11 R_f23 k K rec2 v20_40 ((CV.toI e60), u66.2.1, u66.2.2.1, u66.2.2.2.1, u66.2.2.2.2.1, u66.2.2.2.2.2.1, u66.2.2.2.2.2.2.1, u66.2.2.2.2.2.2.2.1, u66.2.2.2.2.2.2.2.2))
else
f6_J2 R_f7 R_f8 R_f21 R_f14 R_f17 R_f16 R_f22 R_f18 R_f12 R_f11 R_f23 k K rec2 v20_40 ((CV.toI e60), u66.2.1, u66.2.2.1, u66.2.2.2.1, u66.2.2.2.2.1, u66.2.2.2.2.2.1, u66.2.2.2.2.2.2.1, u66.2.2.2.2.2.2.2.1, u66.2.2.2.2.2.2.2.2))) (u65.2.1) (u65.2.2.1) (u65.2.2.2.1) (u65.2.2.2.2.1) (u65.2.2.2.2.2.1) (u65.2.2.2.2.2.2.1) (u65.2.2.2.2.2.2.2.1) (u65.2.2.2.2.2.2.2.2)
else
f6_J2 R_f7 R_f8 R_f21 R_f14 R_f17 R_f16 R_f22 R_f18 R_f12 R_f11 R_f23 k K rec2 v20_40 ((CV.toI e60), u65.2.1, u65.2.2.1, u65.2.2.2.1, u65.2.2.2.2.1, u65.2.2.2.2.2.1, u65.2.2.2.2.2.2.1, u65.2.2.2.2.2.2.2.1, u65.2.2.2.2.2.2.2.2))) (v20_40.2.2.2.2.2.2.2.2.2.1) (v20_40.2.2.2.2.2.2.2.2.2.2.1) (v20_40.2.2.2.2.2.2.2.2.2.2.2.1) (v20_40.2.2.2.2.2.2.2.2.2.2.2.2.1) (v20_40.2.2.2.2.2.2.2.2.2.2.2.2.2.1) (v20_40.2.2.2.2.2.2.2.2.2.2.2.2.2.2.1) (v20_40.2.2.2.2.2.2.2.2.2.2.2.2.2.2.2.1) (v20_40.2.2.2.2.2.2.2.2.2.2.2.2.2.2.2.2)
else
R_f11 _ (fun u67 =>
(bif ((v20_40.2.2.2.1 == 30) == (decide (v20_40.2.1 < u67.1))) then
R_f23 _ (fun u68 =>
K ((u68.1 == 1))) (v20_40.1) (u67.2.1) (u67.2.2.1) (u67.2.2.2.1) (u67.2.2.2.2.1) (u67.2.2.2.2.2.1) (u67.2.2.2.2.2.2.1) (u67.2.2.2.2.2.2.2.1) (u67.2.2.2.2.2.2.2.2)
else
K (false))) (v20_40.2.2.2.2.2.2.2.2.2.1) (v20_40.2.2.2.2.2.2.2.2.2.2.1) (v20_40.2.2.2.2.2.2.2.2.2.2.2.1) (v20_40.2.2.2.2.2.2.2.2.2.2.2.2.1) (v20_40.2.2.2.2.2.2.2.2.2.2.2.2.2.1) (v20_40.2.2.2.2.2.2.2.2.2.2.2.2.2.2.1) (v20_40.2.2.2.2.2.2.2.2.2.2.2.2.2.2.2.1) (v20_40.2.2.2.2.2.2.2.2.2.2.2.2.2.2.2.2))
def f6_L2 {X : Type} (R_f7 : f7_R) (R_f8 : f8_R) (R_f21 : f21_R) (R_f14 : f14_R) (R_f17 : f17_R) (R_f16 : f16_R) (R_f22 : f22_R) (R_f18 : f18_R) (R_f12 : f12_R) (R_f11 : f11_R) (R_f23 : f23_R) (k : Nat) (K : Bool → Option X)  (rec2 : Int × Int × Nat × Int × Nat × Int × Int × (List CV) × (List CV) × Nat × Int × Nat × Int × Int × Bool × (List CV) × (List CV) → Option X) (v : Int × Int × Nat × Int × Nat × Int × Int × (List CV) × (List CV) × Nat × Int × Nat × Int × Int × Bool × (List CV) × (List CV)) : Option X := f6_T2 R_f7 R_f8 R_f21 R_f14 R_f17 R_f16 R_f22 R_f18 R_f12 R_f11 R_f23 k K   rec2 v
set_option maxRecDepth 100000 in
theorem f6_L2_ev {X : Type} (R_f7 : f7_R) (R_f8 : f8_R) (R_f21 : f21_R) (R_f14 : f14_R) (R_f17 : f17_R) (R_f16 : f16_R) (R_f22 : f22_R) (R_f18 : f18_R) (R_f12 : f12_R) (R_f11 : f11_R) (R_f23 : f23_R) (hR_f7 : AnsOk Try.prog 7 (f7_cOf R_f7)) (hR_f8 : AnsOk Try.prog 8 (f8_cOf R_f8)) (hR_f21 : AnsOk Try.prog 21 (f21_cOf R_f21)) (hR_f14 : AnsOk Try.prog 14 (f14_cOf R_f14)) (hR_f17 : AnsOk Try.prog 17 (f17_cOf R_f17)) (hR_f16 : AnsOk Try.prog 16 (f16_cOf R_f16)) (hR_f22 : AnsOk Try.prog 22 (f22_cOf R_f22)) (hR_f18 : AnsOk Try.prog 18 (f18_cOf R_f18)) (hR_f12 : AnsOk Try.prog 12 (f12_cOf R_f12)) (hR_f11 : AnsOk Try.prog 11 (f11_cOf R_f11)) (hR_f23 : AnsOk Try.prog 23 (f23_cOf R_f23)) (k : Nat) (K : Out → Option X)  (r2 : St → Option X) (v : Int × Int × Nat × Int × Nat × Int × Int × (List CV) × (List CV) × Nat × Int × Nat × Int × Int × Bool × (List CV) × (List CV)) : loopB (f6_cx R_f7 R_f8 R_f21 R_f14 R_f17 R_f16 R_f22 R_f18 R_f12 R_f11 R_f23 hR_f7 hR_f8 hR_f21 hR_f14 hR_f17 hR_f16 hR_f22 hR_f18 hR_f12 hR_f11 hR_f23) k [.r, .r, .r, .r, .r, .r, .r, .r, .r, .r, .r, .r, .r, .r, .r, .r, .r, .l, .r, .b] (Try.f6.body.getD .skip) (retK (f6_cx R_f7 R_f8 R_f21 R_f14 R_f17 R_f16 R_f22 R_f18 R_f12 R_f11 R_f23 hR_f7 hR_f8 hR_f21 hR_f14 hR_f17 hR_f16 hR_f22 hR_f18 hR_f12 hR_f11 hR_f23) [] Try.f6.results.toList K) [] r2 (f6_S2 v) = f6_T2 R_f7 R_f8 R_f21 R_f14 R_f17 R_f16 R_f22 R_f18 R_f12 R_f11 R_f23 k (fun u => K (f6_out u))   (fun v => r2 (f6_S2 v)) v := by kernel_rfl
theorem f6_L2_it {X : Type} (R_f7 : f7_R) (R_f8 : f8_R) (R_f21 : f21_R) (R_f14 : f14_R) (R_f17 : f17_R) (R_f16 : f16_R) (R_f22 : f22_R) (R_f18 : f18_R) (R_f12 : f12_R) (R_f11 : f11_R) (R_f23 : f23_R) (hR_f7 : AnsOk Try.prog 7 (f7_cOf R_f7)) (hR_f8 : AnsOk Try.prog 8 (f8_cOf R_f8)) (hR_f21 : AnsOk Try.prog 21 (f21_cOf R_f21)) (hR_f14 : AnsOk Try.prog 14 (f14_cOf R_f14)) (hR_f17 : AnsOk Try.prog 17 (f17_cOf R_f17)) (hR_f16 : AnsOk Try.prog 16 (f16_cOf R_f16)) (hR_f22 : AnsOk Try.prog 22 (f22_cOf R_f22)) (hR_f18 : AnsOk Try.prog 18 (f18_cOf R_f18)) (hR_f12 : AnsOk Try.prog 12 (f12_cOf R_f12)) (hR_f11 : AnsOk Try.prog 11 (f11_cOf R_f11)) (hR_f23 : AnsOk Try.prog 23 (f23_cOf R_f23)) (k : Nat) (K : Out → Option X)  : (fun v => iter (loopB (f6_cx R_f7 R_f8 R_f21 R_f14 R_f17 R_f16 R_f22 R_f18 R_f12 R_f11 R_f23 hR_f7 hR_f8 hR_f21 hR_f14 hR_f17 hR_f16 hR_f22 hR_f18 hR_f12 hR_f11 hR_f23) k [.r, .r, .r, .r, .r, .r, .r, .r, .r, .r, .r, .r, .r, .r, .r, .r, .r, .l, .r, .b] (Try.f6.body.getD .skip) (retK (f6_cx R_f7 R_f8 R_f21 R_f14 R_f17 R_f16 R_f22 R_f18 R_f12 R_f11 R_f23 hR_f7 hR_f8 hR_f21 hR_f14 hR_f17 hR_f16 hR_f22 hR_f18 hR_f12 hR_f11 hR_f23) [] Try.f6.results.toList K) []) k (f6_S2 v)) = iterV (f6_L2 R_f7 R_f8 R_f21 R_f14 R_f17 R_f16 R_f22 R_f18 R_f12 R_f11 R_f23 k (fun u => K (f6_out u)) ) k :=
  iter_map (fun r2 v => (f6_L2_ev R_f7 R_f8 R_f21 R_f14 R_f17 R_f16 R_f22 R_f18 R_f12 R_f11 R_f23 hR_f7 hR_f8 hR_f21 hR_f14 hR_f17 hR_f16 hR_f22 hR_f18 hR_f12 hR_f11 hR_f23 k K  r2 v).trans rfl) k
def f6_T1 {X : Type} (R_f7 : f7_R) (R_f8 : f8_R) (R_f21 : f21_R) (R_f14 : f14_R) (R_f17 : f17_R) (R_f16 : f16_R) (R_f22 : f22_R) (R_f18 : f18_R) (R_f12 : f12_R) (R_f11 : f11_R) (R_f23 : f23_R) (k : Nat) (K : Bool → Option X)  (loop2 : Int × Int × Nat × Int × Nat × Int × Int × (List CV) × (List CV) × Nat × Int × Nat × Int × Int × Bool × (List CV) × (List CV) → Option X) (rec1 : Int × (List CV) × Int × Int × Nat × Int × Nat × Int × Int × (List CV) × (List CV) × Nat × Int × Nat × Int × Int × Bool × (List CV) × (List CV) → Option X) (v13_8 : Int × (List CV) × Int × Int × Nat × Int × Nat × Int × Int × (List CV) × (List CV) × Nat × Int × Nat × Int × Int × Bool × (List CV) × (List CV)) : Option X :=
(bif (decide (v13_8.2.2.2.2.2.2.2.2.1 < v13_8.2.2.2.2.2.2.2.1)) then
grd (decide (0 ≤ v13_8.2.2.2.2.2.2.2.2.1)) <|
grd (decide (v13_8.2.2.2.2.2.2.2.2.1 < (Nat.cast (v13_8.2.2.2.2.1) : Int))) <|
Option.bind (v13_8.2.2.2.2.2.2.2.2.2.1)[(0 + (Int.toNat v13_8.2.2.2.2.2.2.2.2.1))]? fun e28 =>
grd (CV.isI .u8 e28) <|
(bif (decide (v13_8.1 ≥ 0)) then
(bif (decide ((IntKind.wrap .i64 (v13_8.2.2.2.2.2.2.2.2.1 - v13_8.1)) ≥ 0)) then
(bif (decide ((IntKind.wrap .i64 (v13_8.2.2.2.2.2.2.2.2.1 - v13_8.1)) < (Nat.cast ((List.length v13_8.2.1)) : Int))) then
(bif (decide ((IntKind.wrap .i64 (v13_8.2.2.2.2.2.2.2.2.1 - v13_8.1)) < v13_8.2.2.2.1)) then
(bif (v13_8.2.2.2.2.2.1 == 0) then
grd (decide (0 ≤ (IntKind.wrap .i64 (v13_8.2.2.2.2.2.2.2.2.1 - v13_8.1)))) <|
Option.bind (v13_8.2.1)[(Int.toNat (IntKind.wrap .i64 (v13_8.2.2.2.2.2.2.2.2.1 - v13_8.1)))]? fun e33 =>
grd (CV.isI .u8 e33) <|
f6_J1 R_f7 R_f8 R_f21 R_f14 R_f17 R_f16 R_f22 R_f18 R_f12 R_f11 R_f23 k K rec1 v13_8 ((CV.toI e33))
else
(bif (v13_8.2.2.2.2.2.1 == 30) then
grd (decide (0 ≤ (IntKind.wrap .i64 (v13_8.2.2.2.2.2.2.2.2.1 - v13_8.1)))) <|
Option.bind (v13_8.2.1)[(Int.toNat (IntKind.wrap .i64 (v13_8.2.2.2.2.2.2.2.2.1 - v13_8.1)))]? fun e34 =>
grd (CV.isI .u8 e34) <|
f6_J1 R_f7 R_f8 R_f21 R_f14 R_f17 R_f16 R_f22 R_f18 R_f12 R_f11 R_f23 k K rec1 v13_8 ((CV.toI e34))
else
f6_J1 R_f7 R_f8 R_f21 R_f14 R_f17 R_f16 R_f22 R_f18 R_f12 R_f11 R_f23 k K rec1 v13_8 ((CV.toI e28))))
else
f6_J1 R_f7 R_f8 R_f21 R_f14 R_f17 R_f16 R_f22 R_f18 R_f12 R_f11 R_f23 k K rec1 v13_8 ((CV.toI e28)))
else
f6_J1 R_f7 R_f8 R_f21 R_f14 R_f17 R_f16 R_f22 R_f18 R_f12 R_f11 R_f23 k K rec1 v13_8 ((CV.toI e28)))
else
f6_J1 R_f7 R_f8 R_f21 R_f14 R_f17 R_f16 R_f22 R_f18 R_f12 R_f11 R_f23 k K rec1 v13_8 ((CV.toI e28)))
else
f6_J1 R_f7 R_f8 R_f21 R_f14 R_f17 R_f16 R_f22 R_f18 R_f12 R_f11 R_f23 k K rec1 v13_8 ((CV.toI e28)))
else
R_f22 _ (fun u36 =>
(bif (!((v13_8.2.2.2.2.2.1 == 30) == u36.1)) then
K (false)
else
R_f18 _ (fun u37 =>
R_f17 _ (fun u38 =>
R_f12 _ (fun u39 =>
R_f14 _ (fun u40 =>
loop2 ((bop .and .i64 v13_8.2.2.1 3), v13_8.2.2.2.1, v13_8.2.2.2.2.2.2.1, u39.1, u40.1, (Nat.cast (v13_8.2.2.2.2.2.2.1) : Int), 0, v13_8.2.2.2.2.2.2.2.2.2.2.1, u40.2.2.2.2.2.2.2.2.2, u40.2.1, u40.2.2.1, u40.2.2.2.1, u40.2.2.2.2.1, u40.2.2.2.2.2.1, u40.2.2.2.2.2.2.1, u40.2.2.2.2.2.2.2.1, u40.2.2.2.2.2.2.2.2.1)) (u39.2.1) (u39.2.2.1) (u39.2.2.2.1) (u39.2.2.2.2.1) (u39.2.2.2.2.2.1) (u39.2.2.2.2.2.2.1) (u39.2.2.2.2.2.2.2.1) (u39.2.2.2.2.2.2.2.2)) ((bop .and .i64 v13_8.2.2.1 3)) (u38.1) (u38.2.1) (u38.2.2.1) (u38.2.2.2.1) (u38.2.2.2.2.1) (u38.2.2.2.2.2.1) (u38.2.2.2.2.2.2.1) (u38.2.2.2.2.2.2.2)) (v13_8.2.2.2.1) (u37.1) (u37.2.1) (u37.2.2.1) (u37.2.2.2.1) ((-1)) (false) (u37.2.2.2.2.1) (u37.2.2.2.2.2)) (u36.2.1) (u36.2.2.1) (u36.2.2.2.1) (u36.2.2.2.2.1) (u36.2.2.2.2.2.1) (u36.2.2.2.2.2.2.1) (u36.2.2.2.2.2.2.2.1) (u36.2.2.2.2.2.2.2.2))) (v13_8.2.2.2.2.2.2.2.2.2.2.2.1) (v13_8.2.2.2.2.2.2.2.2.2.2.2.2.1) (v13_8.2.2.2.2.2.2.2.2.2.2.2.2.2.1) (v13_8.2.2.2.2.2.2.2.2.2.2.2.2.2.2.1) (v13_8.2.2.2.2.2.2.2.2.2.2.2.2.2.2.2.1) (v13_8.2.2.2.2.2.2.2.2.2.2.2.2.2.2.2.2.1) (v13_8.2.2.2.2.2.2.2.2.2.2.2.2.2.2.2.2.2.1) (v13_8.2.2.2.2.2.2.2.2.2.2.2.2.2.2.2.2.2.2))
def f6_L1 {X : Type} (R_f7 : f7_R) (R_f8 : f8_R) (R_f21 : f21_R) (R_f14 : f14_R) (R_f17 : f17_R) (R_f16 : f16_R) (R_f22 : f22_R) (R_f18 : f18_R) (R_f12 : f12_R) (R_f11 : f11_R) (R_f23 : f23_R) (k : Nat) (K : Bool → Option X)  (rec1 : Int × (List CV) × Int × Int × Nat × Int × Nat × Int × Int × (List CV) × (List CV) × Nat × Int × Nat × Int × Int × Bool × (List CV) × (List CV) → Option X) (v : Int × (List CV) × Int × Int × Nat × Int × Nat × Int × Int × (List CV) × (List CV) × Nat × Int × Nat × Int × Int × Bool × (List CV) × (List CV)) : Option X := f6_T1 R_f7 R_f8 R_f21 R_f14 R_f17 R_f16 R_f22 R_f18 R_f12 R_f11 R_f23 k K  (iterV (f6_L2 R_f7 R_f8 R_f21 R_f14 R_f17 R_f16 R_f22 R_f18 R_f12 R_f11 R_f23 k K ) k) rec1 v
set_option maxRecDepth 100000 in
theorem f6_L1_ev {X : Type} (R_f7 : f7_R) (R_f8 : f8_R) (R_f21 : f21_R) (R_f14 : f14_R) (R_f17 : f17_R) (R_f16 : f16_R) (R_f22 : f22_R) (R_f18 : f18_R) (R_f12 : f12_R) (R_f11 : f11_R) (R_f23 : f23_R) (hR_f7 : AnsOk Try.prog 7 (f7_cOf R_f7)) (hR_f8 : AnsOk Try.prog 8 (f8_cOf R_f8)) (hR_f21 : AnsOk Try.prog 21 (f21_cOf R_f21)) (hR_f14 : AnsOk Try.prog 14 (f14_cOf R_f14)) (hR_f17 : AnsOk Try.prog 17 (f17_cOf R_f17)) (hR_f16 : AnsOk Try.prog 16 (f16_cOf R_f16)) (hR_f22 : AnsOk Try.prog 22 (f22_cOf R_f22)) (hR_f18 : AnsOk Try.prog 18 (f18_cOf R_f18)) (hR_f12 : AnsOk Try.prog 12 (f12_cOf R_f12)) (hR_f11 : AnsOk Try.prog 11 (f11_cOf R_f11)) (hR_f23 : AnsOk Try.prog 23 (f23_cOf R_f23)) (k : Nat) (K : Out → Option X)  (r1 : St → Option X) (v : Int × (List CV) × Int × Int × Nat × Int × Nat × Int × Int × (List CV) × (List CV) × Nat × Int × Nat × Int × Int × Bool × (List CV) × (List CV)) : loopB (f6_cx R_f7 R_f8 R_f21 R_f14 R_f17 R_f16 R_f22 R_f18 R_f12 R_f11 R_f23 hR_f7 hR_f8 hR_f21 hR_f14 hR_f17 hR_f16 hR_f22 hR_f18 hR_f12 hR_f11 hR_f23) k [.r, .r, .r, .r, .r, .r, .r, .r, .r, .r, .l, .r, .b] (Try.f6.body.getD .skip) (retK (f6_cx R_f7 R_f8 R_f21 R_f14 R_f17 R_f16 R_f22 R_f18 R_f12 R_f11 R_f23 hR_f7 hR_f8 hR_f21 hR_f14 hR_f17 hR_f16 hR_f22 hR_f18 hR_f12 hR_f11 hR_f23) [] Try.f6.results.toList K) [] r1 (f6_S1 v) = f6_T1 R_f7 R_f8 R_f21 R_f14 R_f17 R_f16 R_f22 R_f18 R_f12 R_f11 R_f23 k (fun u => K (f6_out u))  (fun v => iter (loopB (f6_cx R_f7 R_f8 R_f21 R_f14 R_f17 R_f16 R_f22 R_f18 R_f12 R_f11 R_f23 hR_f7 hR_f8 hR_f21 hR_f14 hR_f17 hR_f16 hR_f22 hR_f18 hR_f12 hR_f11 hR_f23) k [.r, .r, .r, .r, .r, .r, .r, .r, .r, .r, .r, .r, .r, .r, .r, .r, .r, .l, .r, .b] (Try.f6.body.getD .skip) (retK (f6_cx R_f7 R_f8 R_f21 R_f14 R_f17 R_f16 R_f22 R_f18 R_f12 R_f11 R_f23 hR_f7 hR_f8 hR_f21 hR_f14 hR_f17 hR_f16 hR_f22 hR_f18 hR_f12 hR_f11 hR_f23) [] Try.f6.results.toList K) []) k (f6_S2 v)) (fun v => r1 (f6_S1 v)) v := by kernel_rfl
theorem f6_L1_it {X : Type} (R_f7 : f7_R) (R_f8 : f8_R) (R_f21 : f21_R) (R_f14 : f14_R) (R_f17 : f17_R) (R_f16 : f16_R) (R_f22 : f22_R) (R_f18 : f18_R) (R_f12 : f12_R) (R_f11 : f11_R) (R_f23 : f23_R) (hR_f7 : AnsOk Try.prog 7 (f7_cOf R_f7)) (hR_f8 : AnsOk Try.prog 8 (f8_cOf R_f8)) (hR_f21 : AnsOk Try.prog 21 (f21_cOf R_f21)) (hR_f14 : AnsOk Try.prog 14 (f14_cOf R_f14)) (hR_f17 : AnsOk Try.prog 17 (f17_cOf R_f17)) (hR_f16 : AnsOk Try.prog 16 (f16_cOf R_f16)) (hR_f22 : AnsOk Try.prog 22 (f22_cOf R_f22)) (hR_f18 : AnsOk Try.prog 18 (f18_cOf R_f18)) (hR_f12 : AnsOk Try.prog 12 (f12_cOf R_f12)) (hR_f11 : AnsOk Try.prog 11 (f11_cOf R_f11)) (hR_f23 : AnsOk Try.prog 23 (f23_cOf R_f23)) (k : Nat) (K : Out → Option X)  : (fun v => iter (loopB (f6_cx R_f7 R_f8 R_f21 R_f14 R_f17 R_f16 R_f22 R_f18 R_f12 R_f11 R_f23 hR_f7 hR_f8 hR_f21 hR_f14 hR_f17 hR_f16 hR_f22 hR_f18 hR_f12 hR_f11 hR_f23) k [.r, .r, .r, .r, .r, .r, .r, .r, .r, .r, .l, .r, .b] (Try.f6.body.getD .skip) (retK (f6_cx R_f7 R_f8 R_f21 R_f14 R_f17 R_f16 R_f22 R_f18 R_f12 R_f11 R_f23 hR_f7 hR_f8 hR_f21 hR_f14 hR_f17 hR_f16 hR_f22 hR_f18 hR_f12 hR_f11 hR_f23) [] Try.f6.results.toList K) []) k (f6_S1 v)) = iterV (f6_L1 R_f7 R_f8 R_f21 R_f14 R_f17 R_f16 R_f22 R_f18 R_f12 R_f11 R_f23 k (fun u => K (f6_out u)) ) k :=
  iter_map (fun r1 v => (f6_L1_ev R_f7 R_f8 R_f21 R_f14 R_f17 R_f16 R_f22 R_f18 R_f12 R_f11 R_f23 hR_f7 hR_f8 hR_f21 hR_f14 hR_f17 hR_f16 hR_f22 hR_f18 hR_f12 hR_f11 hR_f23 k K  r1 v).trans (by rw [f6_L2_it R_f7 R_f8 R_f21 R_f14 R_f17 R_f16 R_f22 R_f18 R_f12 R_f11 R_f23 hR_f7 hR_f8 hR_f21 hR_f14 hR_f17 hR_f16 hR_f22 hR_f18 hR_f12 hR_f11 hR_f23 k K ]; rfl)) k
def f6_T {X : Type} (R_f7 : f7_R) (R_f8 : f8_R) (R_f21 : f21_R) (R_f14 : f14_R) (R_f17 : f17_R) (R_f16 : f16_R) (R_f22 : f22_R) (R_f18 : f18_R) (R_f12 : f12_R) (R_f11 : f11_R) (R_f23 : f23_R) (k : Nat) (K : Bool → Option X) (loop1 : Int × (List CV) × Int × Int × Nat × Int × Nat × Int × Int × (List CV) × (List CV) × Nat × Int × Nat × Int × Int × Bool × (List CV) × (List CV) → Option X) (x0 : Int) (x1 : List CV) (x2 : Int) (x3 : List CV) (x4 : Int) (x5 : Int) : Option X :=
R_f7 _ (fun u2 =>
(bif (!u2) then
K (false)
else
(bif (decide (x0 > 64)) then
K (true)
else
(bif (decide ((Nat.cast ((List.length x3)) : Int) > 300)) then
K (true)
else
(bif (decide ((Nat.cast ((List.length x1)) : Int) > 400)) then
K (true)
else
R_f8 _ (fun u3 =>
R_f21 _ (fun u4 =>
R_f14 _ (fun u5 =>
R_f17 _ (fun u6 =>
R_f16 _ (fun u7 =>
R_f14 _ (fun u8 =>
loop1 (x2, x3, x4, (bop .and .i64 x5 127), u5.1, u7.1, u8.1, (Nat.cast (u5.1) : Int), 0, u5.2.2.2.2.2.2.2.2.2, u8.2.2.2.2.2.2.2.2.2, u8.2.1, u8.2.2.1, u8.2.2.2.1, u8.2.2.2.2.1, u8.2.2.2.2.2.1, u8.2.2.2.2.2.2.1, u8.2.2.2.2.2.2.2.1, u8.2.2.2.2.2.2.2.2.1)) (u7.2.1) (u7.2.2.1) (u7.2.2.2.1) (u7.2.2.2.2.1) (u7.2.2.2.2.2.1) (u7.2.2.2.2.2.2.1) (u7.2.2.2.2.2.2.2.1) (u7.2.2.2.2.2.2.2.2)) (x2) (x3) (u6.1) (u6.2.1) (u6.2.2.1) (u6.2.2.2.1) (u6.2.2.2.2.1) (u6.2.2.2.2.2.1) (u6.2.2.2.2.2.2.1) (u6.2.2.2.2.2.2.2)) ((bop .and .i64 x5 127)) (u5.2.1) (u5.2.2.1) (u5.2.2.2.1) (u5.2.2.2.2.1) (u5.2.2.2.2.2.1) (u5.2.2.2.2.2.2.1) (u5.2.2.2.2.2.2.2.1) (u5.2.2.2.2.2.2.2.2.1)) (u4.1) (u4.2.1) (u4.2.2.1) (u4.2.2.2.1) ((-1)) (false) (u4.2.2.2.2.1) (u4.2.2.2.2.2)) (x1) (u3.1) (u3.2.1) (u3.2.2.1) (0) ((-1)) (false) (u3.2.2.2.1) (u3.2.2.2.2)) (4) (x0)))))) 
/-- "outpost/outpostlaw03.FlashCuts" -/
def f6_A (R_f7 : f7_R) (R_f8 : f8_R) (R_f21 : f21_R) (R_f14 : f14_R) (R_f17 : f17_R) (R_f16 : f16_R) (R_f22 : f22_R) (R_f18 : f18_R) (R_f12 : f12_R) (R_f11 : f11_R) (R_f23 : f23_R) (k : Nat) : f6_R := fun X K x0 x1 x2 x3 x4 x5 => f6_T R_f7 R_f8 R_f21 R_f14 R_f17 R_f16 R_f22 R_f18 R_f12 R_f11 R_f23 k K (iterV (f6_L1 R_f7 R_f8 R_f21 R_f14 R_f17 R_f16 R_f22 R_f18 R_f12 R_f11 R_f23 k K) k) x0 x1 x2 x3 x4 x5
set_option maxRecDepth 100000 in
theorem f6_ev' {X : Type} (R_f7 : f7_R) (R_f8 : f8_R) (R_f21 : f21_R) (R_f14 : f14_R) (R_f17 : f17_R) (R_f16 : f16_R) (R_f22 : f22_R) (R_f18 : f18_R) (R_f12 : f12_R) (R_f11 : f11_R) (R_f23 : f23_R) (hR_f7 : AnsOk Try.prog 7 (f7_cOf R_f7)) (hR_f8 : AnsOk Try.prog 8 (f8_cOf R_f8)) (hR_f21 : AnsOk Try.prog 21 (f21_cOf R_f21)) (hR_f14 : AnsOk Try.prog 14 (f14_cOf R_f14)) (hR_f17 : AnsOk Try.prog 17 (f17_cOf R_f17)) (hR_f16 : AnsOk Try.prog 16 (f16_cOf R_f16)) (hR_f22 : AnsOk Try.prog 22 (f22_cOf R_f22)) (hR_f18 : AnsOk Try.prog 18 (f18_cOf R_f18)) (hR_f12 : AnsOk Try.prog 12 (f12_cOf R_f12)) (hR_f11 : AnsOk Try.prog 11 (f11_cOf R_f11)) (hR_f23 : AnsOk Try.prog 23 (f23_cOf R_f23)) (k : Nat) (K : Out → Option X) (x0 : Int) (x1 : List CV) (x2 : Int) (x3 : List CV) (x4 : Int) (x5 : Int) : evFn (f6_cx R_f7 R_f8 R_f21 R_f14 R_f17 R_f16 R_f22 R_f18 R_f12 R_f11 R_f23 hR_f7 hR_f8 hR_f21 hR_f14 hR_f17 hR_f16 hR_f22 hR_f18 hR_f12 hR_f11 hR_f23) [] k Try.f6.ntmps Try.f6.results.toList (Try.f6.body.getD .skip) [(.v (CV.int .i64 x0)), (.sl true none x1), (.v (CV.int .i64 x2)), (.sl true none x3), (.v (CV.int .i64 x4)), (.v (CV.int .i64 x5))] [] K = f6_T R_f7 R_f8 R_f21 R_f14 R_f17 R_f16 R_f22 R_f18 R_f12 R_f11 R_f23 k (fun u => K (f6_out u)) (fun v => iter (loopB (f6_cx R_f7 R_f8 R_f21 R_f14 R_f17 R_f16 R_f22 R_f18 R_f12 R_f11 R_f23 hR_f7 hR_f8 hR_f21 hR_f14 hR_f17 hR_f16 hR_f22 hR_f18 hR_f12 hR_f11 hR_f23) k [.r, .r, .r, .r, .r, .r, .r, .r, .r, .r, .l, .r, .b] (Try.f6.body.getD .skip) (retK (f6_cx R_f7 R_f8 R_f21 R_f14 R_f17 R_f16 R_f22 R_f18 R_f12 R_f11 R_f23 hR_f7 hR_f8 hR_f21 hR_f14 hR_f17 hR_f16 hR_f22 hR_f18 hR_f12 hR_f11 hR_f23) [] Try.f6.results.toList K) []) k (f6_S1 v)) x0 x1 x2 x3 x4 x5 := by kernel_rfl
theorem f6_ev {X : Type} (R_f7 : f7_R) (R_f8 : f8_R) (R_f21 : f21_R) (R_f14 : f14_R) (R_f17 : f17_R) (R_f16 : f16_R) (R_f22 : f22_R) (R_f18 : f18_R) (R_f12 : f12_R) (R_f11 : f11_R) (R_f23 : f23_R) (hR_f7 : AnsOk Try.prog 7 (f7_cOf R_f7)) (hR_f8 : AnsOk Try.prog 8 (f8_cOf R_f8)) (hR_f21 : AnsOk Try.prog 21 (f21_cOf R_f21)) (hR_f14 : AnsOk Try.prog 14 (f14_cOf R_f14)) (hR_f17 : AnsOk Try.prog 17 (f17_cOf R_f17)) (hR_f16 : AnsOk Try.prog 16 (f16_cOf R_f16)) (hR_f22 : AnsOk Try.prog 22 (f22_cOf R_f22)) (hR_f18 : AnsOk Try.prog 18 (f18_cOf R_f18)) (hR_f12 : AnsOk Try.prog 12 (f12_cOf R_f12)) (hR_f11 : AnsOk Try.prog 11 (f11_cOf R_f11)) (hR_f23 : AnsOk Try.prog 23 (f23_cOf R_f23)) (k : Nat) (K : Out → Option X) (x0 : Int) (x1 : List CV) (x2 : Int) (x3 : List CV) (x4 : Int) (x5 : Int) : evFn (f6_cx R_f7 R_f8 R_f21 R_f14 R_f17 R_f16 R_f22 R_f18 R_f12 R_f11 R_f23 hR_f7 hR_f8 hR_f21 hR_f14 hR_f17 hR_f16 hR_f22 hR_f18 hR_f12 hR_f11 hR_f23) [] k Try.f6.ntmps Try.f6.results.toList (Try.f6.body.getD .skip) [(.v (CV.int .i64 x0)), (.sl true none x1), (.v (CV.int .i64 x2)), (.sl true none x3), (.v (CV.int .i64 x4)), (.v (CV.int .i64 x5))] [] K = f6_A R_f7 R_f8 R_f21 R_f14 R_f17 R_f16 R_f22 R_f18 R_f12 R_f11 R_f23 k X (fun u => K (f6_out u)) x0 x1 x2 x3 x4 x5 := (f6_ev' R_f7 R_f8 R_f21 R_f14 R_f17 R_f16 R_f22 R_f18 R_f12 R_f11 R_f23 hR_f7 hR_f8 hR_f21 hR_f14 hR_f17 hR_f16 hR_f22 hR_f18 hR_f12 hR_f11 hR_f23 k K x0 x1 x2 x3 x4 x5).trans (by rw [f6_L1_it R_f7 R_f8 R_f21 R_f14 R_f17 R_f16 R_f22 R_f18 R_f12 R_f11 R_f23 hR_f7 hR_f8 hR_f21 hR_f14 hR_f17 hR_f16 hR_f22 hR_f18 hR_f12 hR_f11 hR_f23 k K]; rfl)
theorem f6_okA (R_f7 : f7_R) (R_f8 : f8_R) (R_f21 : f21_R) (R_f14 : f14_R) (R_f17 : f17_R) (R_f16 : f16_R) (R_f22 : f22_R) (R_f18 : f18_R) (R_f12 : f12_R) (R_f11 : f11_R) (R_f23 : f23_R) (hR_f7 : AnsOk Try.prog 7 (f7_cOf R_f7)) (hR_f8 : AnsOk Try.prog 8 (f8_cOf R_f8)) (hR_f21 : AnsOk Try.prog 21 (f21_cOf R_f21)) (hR_f14 : AnsOk Try.prog 14 (f14_cOf R_f14)) (hR_f17 : AnsOk Try.prog 17 (f17_cOf R_f17)) (hR_f16 : AnsOk Try.prog 16 (f16_cOf R_f16)) (hR_f22 : AnsOk Try.prog 22 (f22_cOf R_f22)) (hR_f18 : AnsOk Try.prog 18 (f18_cOf R_f18)) (hR_f12 : AnsOk Try.prog 12 (f12_cOf R_f12)) (hR_f11 : AnsOk Try.prog 11 (f11_cOf R_f11)) (hR_f23 : AnsOk Try.prog 23 (f23_cOf R_f23)) (k : Nat) : AnsOk Try.prog 6 (f6_cOf (f6_A R_f7 R_f8 R_f21 R_f14 R_f17 R_f16 R_f22 R_f18 R_f12 R_f11 R_f23 k)) := by
  intro X xs ns K x h
  unfold f6_cOf at h ⊢
  split at h
  · exact ans_main S (f6_Cok R_f7 R_f8 R_f21 R_f14 R_f17 R_f16 R_f22 R_f18 R_f12 R_f11 R_f23 hR_f7 hR_f8 hR_f21 hR_f14 hR_f17 hR_f16 hR_f22 hR_f18 hR_f12 hR_f11 hR_f23) Try.func6 (ent_of Try.func6 (by kernel_rfl) rfl) rfl (fun X K => f6_ev R_f7 R_f8 R_f21 R_f14 R_f17 R_f16 R_f22 R_f18 R_f12 R_f11 R_f23 hR_f7 hR_f8 hR_f21 hR_f14 hR_f17 hR_f16 hR_f22 hR_f18 hR_f12 hR_f11 hR_f23 k K _ _ _ _ _ _) h
  · cases h
/-- "outpost/outpostlaw03.FlashCuts" -/
def f6 {X : Type} (k : Nat) (K : Bool → Option X) (x0 : Int) (x1 : List CV) (x2 : Int) (x3 : List CV) (x4 : Int) (x5 : Int) : Option X := f6_A (fun X => @f7 X k) (fun X => @f8 X k) (fun X => @f21 X k) (fun X => @f14 X k) (fun X => @f17 X k) (fun X => @f16 X k) (fun X => @f22 X k) (fun X => @f18 X k) (fun X => @f12 X k) (fun X => @f11 X k) (fun X => @f23 X k) k X K x0 x1 x2 x3 x4 x5
theorem f6_ok (k : Nat) : AnsOk Try.prog 6 (f6_cOf (fun X => @f6 X k)) := f6_okA (fun X => @f7 X k) (fun X => @f8 X k) (fun X => @f21 X k) (fun X => @f14 X k) (fun X => @f17 X k) (fun X => @f16 X k) (fun X => @f22 X k) (fun X => @f18 X k) (fun X => @f12 X k) (fun X => @f11 X k) (fun X => @f23 X k) (f7_ok k) (f8_ok k) (f21_ok k) (f14_ok k) (f17_ok k) (f16_ok k) (f22_ok k) (f18_ok k) (f12_ok k) (f11_ok k) (f23_ok k) k
end Go.Proofs.YtpdeankgekknaaaD
