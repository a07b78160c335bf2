/- Functions of the program, as plain Lean functions: each with the proof that the evaluator computes it. (Printed by wip/dec/dec.py.) -/
import Derived.Test.YtgkopcfbdcbjbaaTN
import Derived.Test.YtgkopcfbdcbjbaaTO
import Derived.Test.YtgkopcfbdcbjbaaTR
import Derived.Test.YtgkopcfbdcbjbaaProg
import Derived.Test.YtgkopcfbdcbjbaaChecked
namespace Go.Proofs.YtgkopcfbdcbjbaaD
open Go Go.Proofs.YtgkopcfbdcbjbaaS Go.Proofs
set_option linter.unusedVariables false
set_option linter.unusedSimpArgs false
def rows : List (Nat × TI) := [
  (3, ⟨(.int .i64), 1, 8, .v (.int .i64 0)⟩),
  (4, ⟨.bool, 1, 1, .v (.bool false)⟩),
  (5, ⟨(.int .u8), 1, 1, .v (.int .u8 0)⟩),
  (22, ⟨(.slice 5), 1, 24, .nil0 none⟩),
  (24, ⟨(.ptr 53), 1, 8, .v .nilp⟩),
  (26, ⟨(.ptr 55), 1, 8, .v .nilp⟩),
  (27, ⟨(.int .i64), 1, 8, .v (.int .i64 0)⟩),
  (39, ⟨(.slice 44), 1, 24, .nil0 (some 4)⟩),
  (44, ⟨(.struct [(0, 3), (1, 3), (2, 3), (3, 22)]), 4, 48, .agg [.v (.int .i64 0), .v (.int .i64 0), .v (.int .i64 0), .nil0 none]⟩),
  (51, ⟨(.slice 3), 1, 24, .nil0 none⟩),
  (53, ⟨(.struct [(0, 22), (1, 3), (2, 51), (3, 3), (4, 3), (5, 4)]), 6, 80, .agg [.nil0 none, .v (.int .i64 0), .nil0 none, .v (.int .i64 0), .v (.int .i64 0), .v (.bool false)]⟩),
  (55, ⟨(.struct [(0, 24), (1, 3), (2, 3)]), 3, 24, .v (.agg [.nilp, (.int .i64 0), (.int .i64 0)])⟩),
  (62, ⟨(.int .u64), 1, 8, .v (.int .u64 0)⟩),
  (71, ⟨(.int .u64), 1, 8, .v (.int .u64 0)⟩)]
set_option maxRecDepth 100000 in
theorem rows_ok : rowsAre Try.prog rows = true := by kernel_rfl
def cmps : List Nat := []
theorem cmps_ok : cmpsAre Try.prog cmps = true := by kernel_rfl
def S : Seat Try.prog := ⟨rows, rows_ok, Try.checked.mixed, cmps, cmps_ok⟩
def md (g : FuncId) (i : Nat) : Nat := (bif Nat.beq g 37 && Nat.beq i 0 then 3 else (bif Nat.beq g 28 && Nat.beq i 0 then 3 else (bif Nat.beq g 26 && Nat.beq i 0 then 3 else (bif Nat.beq g 23 && Nat.beq i 0 then 3 else (bif Nat.beq g 22 && Nat.beq i 0 then 3 else (bif Nat.beq g 21 && Nat.beq i 0 then 3 else (bif Nat.beq g 13 && Nat.beq i 0 then 3 else (bif Nat.beq g 12 && Nat.beq i 0 then 3 else (bif Nat.beq g 10 && Nat.beq i 0 then 3 else (bif Nat.beq g 9 && Nat.beq i 0 then 3 else (bif Nat.beq g 8 && Nat.beq i 0 then 3 else 0)))))))))))
def setRun {X : Type} (e : CV) (j n : Nat) (cs : List CV) (K : CV → Option X) : Option X := match e with
  | .agg ds => grd (Nat.ble (j + n) ds.length) (K (.agg (putRun ds j cs)))
  | _ => none
def setCell {X : Type} (e : CV) (j : Nat) (c : CV) (K : CV → Option X) : Option X := match e with
  | .agg ds => grd (Nat.blt j ds.length) (K (.agg (ds.set j c)))
  | _ => none
abbrev f41_R : Type 1 := (X : Type) → (Int × Int → Option X) → Int → Int → Option X
def f41_out (u : Int × Int) : Out := ⟨(.tup [(.v (CV.int .u64 u.1)), (.v (CV.int .u64 u.2))]), []⟩
def f41_cOf (R : f41_R) : FnC := fun X xs ns K => match xs, ns with
  | [(.v (CV.int .u64 x0)), (.v (CV.int .u64 x1))], [] => R X (fun u => K (f41_out u)) x0 x1
  | _, _ => none
def f41_plan : Nat → Option (List Nat × List Wk)
  | 0 => some ([0, 1], [])
  | 1 => some ([0, 1], [])
  | 2 => some ([0, 1, 6], [])
  | 3 => some ([0, 1, 6, 7], [])
  | 4 => some ([0, 1, 6, 7, 8], [])
  | 5 => some ([0, 1, 6, 7, 8, 9], [])
  | 6 => some ([0, 1, 6, 7, 8, 9, 10], [])
  | 7 => some ([0, 1, 6, 7, 9, 11], [])
  | 8 => some ([0, 1, 6, 7, 9, 11, 12], [])
  | 9 => some ([0, 1, 6, 7, 9, 12, 13], [])
  | 10 => some ([0, 1, 7, 9, 12, 13], [])
  | 11 => some ([0, 1, 4], [])
  | _ => none
def f41_C : Fns := noC
theorem f41_Cok : CsOk Try.prog (f41_C) := noC_ok
def f41_cx : Cx := mkCx (tabOf rows) (f41_C) md (cmpIn cmps) f41_plan (f41_Cok)
def f41_T {X : Type} (k : Nat) (K : Int × Int → Option X)  (x0 : Int) (x1 : Int) : Option X :=
K ((IntKind.wrap .u64 ((IntKind.wrap .u64 ((IntKind.wrap .u64 ((Int.fdiv x0 (2 ^ 32)) * (Int.fdiv x1 (2 ^ 32)))) + (Int.fdiv (IntKind.wrap .u64 ((IntKind.wrap .u64 ((Int.fdiv x0 (2 ^ 32)) * (bop .and .u64 x1 4294967295))) + (Int.fdiv (IntKind.wrap .u64 ((bop .and .u64 x0 4294967295) * (bop .and .u64 x1 4294967295))) (2 ^ 32)))) (2 ^ 32)))) + (Int.fdiv (IntKind.wrap .u64 ((bop .and .u64 (IntKind.wrap .u64 ((IntKind.wrap .u64 ((Int.fdiv x0 (2 ^ 32)) * (bop .and .u64 x1 4294967295))) + (Int.fdiv (IntKind.wrap .u64 ((bop .and .u64 x0 4294967295) * (bop .and .u64 x1 4294967295))) (2 ^ 32)))) 4294967295) + (IntKind.wrap .u64 ((bop .and .u64 x0 4294967295) * (Int.fdiv x1 (2 ^ 32)))))) (2 ^ 32)))), (IntKind.wrap .u64 (x0 * x1)))
/-- "math/bits.Mul64" -/
def f41_A (k : Nat) : f41_R := fun X K x0 x1 => f41_T k K  x0 x1
set_option maxRecDepth 100000 in
theorem f41_ev' {X : Type} (k : Nat) (K : Out → Option X) (x0 : Int) (x1 : Int) : evFn (f41_cx) [] k Try.f41.ntmps Try.f41.results.toList (Try.f41.body.getD .skip) [(.v (CV.int .u64 x0)), (.v (CV.int .u64 x1))] [] K = f41_T k (fun u => K (f41_out u)) x0 x1 := by kernel_rfl
theorem f41_ev {X : Type} (k : Nat) (K : Out → Option X) (x0 : Int) (x1 : Int) : evFn (f41_cx) [] k Try.f41.ntmps Try.f41.results.toList (Try.f41.body.getD .skip) [(.v (CV.int .u64 x0)), (.v (CV.int .u64 x1))] [] K = f41_A k X (fun u => K (f41_out u)) x0 x1 := (f41_ev' k K x0 x1).trans rfl
theorem f41_okA (k : Nat) : AnsOk Try.prog 41 (f41_cOf (f41_A k)) := by
  intro X xs ns K x h
  unfold f41_cOf at h ⊢
  split at h
  · exact ans_main S (f41_Cok) Try.func41 (ent_of Try.func41 (by kernel_rfl) rfl) rfl (fun X K => f41_ev k K _ _) h
  · cases h
/-- "math/bits.Mul64" -/
def f41 {X : Type} (k : Nat) (K : Int × Int → Option X) (x0 : Int) (x1 : Int) : Option X := f41_A k X K x0 x1
theorem f41_ok (k : Nat) : AnsOk Try.prog 41 (f41_cOf (fun X => @f41 X k)) := f41_okA k
abbrev f34_R : Type 1 := (X : Type) → (Int × Int → Option X) → Int → Int → Option X
def f34_out (u : Int × Int) : Out := ⟨(.tup [(.v (CV.int .u64 u.1)), (.v (CV.int .u64 u.2))]), []⟩
def f34_cOf (R : f34_R) : FnC := fun X xs ns K => match xs, ns with
  | [(.v (CV.int .u64 x0)), (.v (CV.int .u64 x1))], [] => R X (fun u => K (f34_out u)) x0 x1
  | _, _ => none
def f34_plan : Nat → Option (List Nat × List Wk)
  | 0 => some ([0, 1], [])
  | 1 => some ([0, 1], [])
  | 2 => some ([6, 7], [])
  | 3 => some ([0, 1], [])
  | 4 => some ([8, 9], [])
  | _ => none
def f34_C (R_f41 : f41_R) : Fns := (orC 41 (f41_cOf R_f41) noC)
theorem f34_Cok (R_f41 : f41_R) (hR_f41 : AnsOk Try.prog 41 (f41_cOf R_f41)) : CsOk Try.prog (f34_C R_f41) := (orC_ok hR_f41 noC_ok)
def f34_cx (R_f41 : f41_R) (hR_f41 : AnsOk Try.prog 41 (f41_cOf R_f41)) : Cx := mkCx (tabOf rows) (f34_C R_f41) md (cmpIn cmps) f34_plan (f34_Cok R_f41 hR_f41)
def f34_T {X : Type} (R_f41 : f41_R) (k : Nat) (K : Int × Int → Option X)  (x0 : Int) (x1 : Int) : Option X :=
R_f41 _ (fun u1 =>
K (u1.1, u1.2)) (x0) (x1)
/-- "math/bits.Mul" -/
def f34_A (R_f41 : f41_R) (k : Nat) : f34_R := fun X K x0 x1 => f34_T R_f41 k K  x0 x1
set_option maxRecDepth 100000 in
theorem f34_ev' {X : Type} (R_f41 : f41_R) (hR_f41 : AnsOk Try.prog 41 (f41_cOf R_f41)) (k : Nat) (K : Out → Option X) (x0 : Int) (x1 : Int) : evFn (f34_cx R_f41 hR_f41) [] k Try.f34.ntmps Try.f34.results.toList (Try.f34.body.getD .skip) [(.v (CV.int .u64 x0)), (.v (CV.int .u64 x1))] [] K = f34_T R_f41 k (fun u => K (f34_out u)) x0 x1 := by kernel_rfl
theorem f34_ev {X : Type} (R_f41 : f41_R) (hR_f41 : AnsOk Try.prog 41 (f41_cOf R_f41)) (k : Nat) (K : Out → Option X) (x0 : Int) (x1 : Int) : evFn (f34_cx R_f41 hR_f41) [] k Try.f34.ntmps Try.f34.results.toList (Try.f34.body.getD .skip) [(.v (CV.int .u64 x0)), (.v (CV.int .u64 x1))] [] K = f34_A R_f41 k X (fun u => K (f34_out u)) x0 x1 := (f34_ev' R_f41 hR_f41 k K x0 x1).trans rfl
theorem f34_okA (R_f41 : f41_R) (hR_f41 : AnsOk Try.prog 41 (f41_cOf R_f41)) (k : Nat) : AnsOk Try.prog 34 (f34_cOf (f34_A R_f41 k)) := by
  intro X xs ns K x h
  unfold f34_cOf at h ⊢
  split at h
  · exact ans_main S (f34_Cok R_f41 hR_f41) Try.func34 (ent_of Try.func34 (by kernel_rfl) rfl) rfl (fun X K => f34_ev R_f41 hR_f41 k K _ _) h
  · cases h
/-- "math/bits.Mul" -/
def f34 {X : Type} (k : Nat) (K : Int × Int → Option X) (x0 : Int) (x1 : Int) : Option X := f34_A (fun X => @f41 X k) k X K x0 x1
theorem f34_ok (k : Nat) : AnsOk Try.prog 34 (f34_cOf (fun X => @f34 X k)) := f34_okA (fun X => @f41 X k) (f41_ok k) k
/-- "internal/bytealg.MakeNoZero" -/
def f35 {X : Type} (k : Nat) (K : Nat × List CV → Option X) (x0 : Int) : Option X := grd (decide (0 ≤ x0)) (grd (decide (x0 ≤ 281474976710656)) (K (x0.toNat, List.replicate x0.toNat .any)))
def f35_out (u : Nat × List CV) : Out := ⟨.osl [2000] none 0 u.1, [([2000], .row false none u.2)]⟩
abbrev f35_R : Type 1 := (X : Type) → (Nat × List CV → Option X) → Int → Option X
def f35_cOf (R : f35_R) : FnC := fun X xs ns K => match xs, ns with
  | [.v (.int .i64 x0)], [] => R X (fun u => K (f35_out u)) x0
  | _, _ => none
theorem f35_ok (k : Nat) : AnsOk Try.prog 35 (f35_cOf (fun X => @f35 X k)) := by
  intro X xs ns K x h
  unfold f35_cOf at h ⊢
  split at h
  · next x0 =>
    have h : grd (decide (0 ≤ x0)) (grd (decide (x0 ≤ 281474976710656)) (K (f35_out (x0.toNat, List.replicate x0.toNat .any)))) = some x := h
    obtain ⟨h1, h2⟩ := grd_some h
    obtain ⟨h3, h4⟩ := grd_some h2
    exact ⟨trivial, _, mnz_ans (ps := #[3]) Try.func35 (by kernel_rfl) rfl (by kernel_rfl) (by kernel_rfl) Try.underlying22 h, h4, fun Y K' => by show grd _ (grd _ _) = _; rw [h1, h3]; rfl⟩
  · cases h
abbrev f24_R : Type 1 := (X : Type) → (Nat × (List CV) → Option X) → (List CV) → Int → Option X
def f24_out (u : Nat × (List CV)) : Out := ⟨(.osl [2000] none 0 u.1), [([2000], (.row false none u.2))]⟩
def f24_cOf (R : f24_R) : FnC := fun X xs ns K => match xs, ns with
  | [(.sl false none x0), (.v (CV.int .i64 x1))], [] => R X (fun u => K (f24_out u)) x0 x1
  | _, _ => none
def f24_plan : Nat → Option (List Nat × List Wk)
  | 0 => some ([0, 1], [])
  | 1 => some ([0, 1], [])
  | 2 => some ([], [])
  | 3 => some ([0, 1], [])
  | 4 => some ([0, 1], [])
  | 5 => some ([0, 1], [])
  | 6 => some ([0, 5, 6], [])
  | 7 => some ([0, 6], [])
  | 8 => some ([0, 6], [])
  | 9 => some ([0, 7], [])
  | 10 => some ([], [])
  | 11 => some ([0, 7], [])
  | 12 => some ([0, 7, 8], [])
  | 13 => some ([0, 7], [])
  | 14 => some ([0, 7, 8], [])
  | 15 => some ([0, 7], [])
  | 16 => some ([0, 7, 8], [])
  | 17 => some ([0, 7, 8, 9], [])
  | 18 => some ([7, 8, 9, 10], [])
  | 19 => some ([7, 8, 9, 10], [])
  | 20 => some ([7, 8, 9, 10, 11], [])
  | 21 => some ([9], [])
  | _ => none
def f24_C (R_f34 : f34_R) (R_f35 : f35_R) : Fns := (orC 34 (f34_cOf R_f34) (orC 35 (f35_cOf R_f35) noC))
theorem f24_Cok (R_f34 : f34_R) (R_f35 : f35_R) (hR_f34 : AnsOk Try.prog 34 (f34_cOf R_f34)) (hR_f35 : AnsOk Try.prog 35 (f35_cOf R_f35)) : CsOk Try.prog (f24_C R_f34 R_f35) := (orC_ok hR_f34 (orC_ok hR_f35 noC_ok))
def f24_cx (R_f34 : f34_R) (R_f35 : f35_R) (hR_f34 : AnsOk Try.prog 34 (f34_cOf R_f34)) (hR_f35 : AnsOk Try.prog 35 (f35_cOf R_f35)) : Cx := mkCx (tabOf rows) (f24_C R_f34 R_f35) md (cmpIn cmps) f24_plan (f24_Cok R_f34 R_f35 hR_f34 hR_f35)
def f24_S1 (v : Int × Int × Nat × Int × (List CV)) : St := ⟨[.undef, .undef, .undef, .undef, .undef, .undef, .undef, (.v (CV.int .i64 v.1)), (.v (CV.int .i64 v.2.1)), (.osl [9] none 0 v.2.2.1), (.v (CV.int .i64 v.2.2.2.1)), .undef, .undef, .undef, .undef, .undef, .undef, .undef, .undef, .undef, .undef, .undef, .undef, .undef, .undef, .undef, .undef, .undef, .undef, .undef, .undef, .undef, .undef, .undef, .undef, .undef, .undef, .undef, .undef, .undef, .undef, .undef, .undef, .undef, .undef, .undef, .undef, .undef, .undef, .undef, .undef, .undef, .undef, .undef, .undef, .undef, .undef, .undef, .undef, .undef, .undef, .undef, .undef, .undef, .undef, .undef, .undef, .undef, .undef, .undef, .undef, .undef, .undef, .undef, .undef, .undef, .undef], [([9], (.row false none v.2.2.2.2))]⟩
def f24_J1 {X : Type} (R_f34 : f34_R) (R_f35 : f35_R) (k : Nat) (K : Nat × (List CV) → Option X) (loop1 : Int × Int × Nat × Int × (List CV) → Option X) (u1 : Int × Int) (x0 : List CV) (v2 : Int) : Option X :=
R_f35 _ (fun u3 =>
grd (decide (0 ≤ (IntKind.wrap .i64 u1.2))) <|
grd (decide ((IntKind.wrap .i64 u1.2) ≤ (IntKind.wrap .i64 u1.2))) <|
grd (decide ((IntKind.wrap .i64 u1.2) ≤ ((Nat.cast ((List.length u3.2)) : Int) - (0 : Int)))) <|
(bif (decide ((IntKind.wrap .i64 u1.2) = ((Nat.cast ((List.length u3.2)) : Int) - (0 : Int)))) then
grd (decide ((0 + ((Int.toNat (IntKind.wrap .i64 u1.2)) - 0)) ≤ (List.length u3.2))) <|
loop1 ((IntKind.wrap .i64 u1.2), v2, ((Int.toNat (IntKind.wrap .i64 u1.2)) - 0), (Nat.cast ((min (List.length x0) ((Int.toNat (IntKind.wrap .i64 u1.2)) - 0))) : Int), ((List.take 0 u3.2) ++ (List.take (min (List.length x0) ((Int.toNat (IntKind.wrap .i64 u1.2)) - 0)) x0) ++ (List.drop (0 + (min (List.length x0) ((Int.toNat (IntKind.wrap .i64 u1.2)) - 0))) u3.2)))
else
none)) ((IntKind.wrap .i64 u1.2))
def f24_T1 {X : Type} (R_f34 : f34_R) (R_f35 : f35_R) (k : Nat) (K : Nat × (List CV) → Option X)   (rec1 : Int × Int × Nat × Int × (List CV) → Option X) (v13_3 : Int × Int × Nat × Int × (List CV)) : Option X :=
(bif (decide (v13_3.2.2.2.1 < v13_3.1)) then
grd (decide (0 ≤ v13_3.2.2.2.1)) <|
grd (decide (v13_3.2.2.2.1 ≤ (Nat.cast (v13_3.2.2.1) : Int))) <|
grd (decide ((Nat.cast (v13_3.2.2.1) : Int) ≤ (Nat.cast (v13_3.2.2.1) : Int))) <|
grd (decide (0 ≤ (if v13_3.2.1 < v13_3.2.2.2.1 then v13_3.2.1 else v13_3.2.2.2.1))) <|
grd (decide ((if v13_3.2.1 < v13_3.2.2.2.1 then v13_3.2.1 else v13_3.2.2.2.1) ≤ ((Nat.cast ((List.length v13_3.2.2.2.2)) : Int) - 0))) <|
grd (decide (((0 + (Int.toNat v13_3.2.2.2.1)) + (v13_3.2.2.1 - (Int.toNat v13_3.2.2.2.1))) ≤ (List.length v13_3.2.2.2.2))) <|
rec1 (v13_3.1, v13_3.2.1, v13_3.2.2.1, (IntKind.wrap .i64 (v13_3.2.2.2.1 + (Nat.cast ((min (List.length (List.take ((Int.toNat (if v13_3.2.1 < v13_3.2.2.2.1 then v13_3.2.1 else v13_3.2.2.2.1)) - 0) (List.drop 0 v13_3.2.2.2.2))) (v13_3.2.2.1 - (Int.toNat v13_3.2.2.2.1)))) : Int))), ((List.take (0 + (Int.toNat v13_3.2.2.2.1)) v13_3.2.2.2.2) ++ (List.take (min (List.length (List.take ((Int.toNat (if v13_3.2.1 < v13_3.2.2.2.1 then v13_3.2.1 else v13_3.2.2.2.1)) - 0) (List.drop 0 v13_3.2.2.2.2))) (v13_3.2.2.1 - (Int.toNat v13_3.2.2.2.1))) (List.take ((Int.toNat (if v13_3.2.1 < v13_3.2.2.2.1 then v13_3.2.1 else v13_3.2.2.2.1)) - 0) (List.drop 0 v13_3.2.2.2.2))) ++ (List.drop ((0 + (Int.toNat v13_3.2.2.2.1)) + (min (List.length (List.take ((Int.toNat (if v13_3.2.1 < v13_3.2.2.2.1 then v13_3.2.1 else v13_3.2.2.2.1)) - 0) (List.drop 0 v13_3.2.2.2.2))) (v13_3.2.2.1 - (Int.toNat v13_3.2.2.2.1)))) v13_3.2.2.2.2)))
else
K (v13_3.2.2.1, (List.take (0 + v13_3.2.2.1) v13_3.2.2.2.2)))
def f24_L1 {X : Type} (R_f34 : f34_R) (R_f35 : f35_R) (k : Nat) (K : Nat × (List CV) → Option X)  (rec1 : Int × Int × Nat × Int × (List CV) → Option X) (v : Int × Int × Nat × Int × (List CV)) : Option X := f24_T1 R_f34 R_f35 k K   rec1 v
set_option maxRecDepth 100000 in
theorem f24_L1_ev {X : Type} (R_f34 : f34_R) (R_f35 : f35_R) (hR_f34 : AnsOk Try.prog 34 (f34_cOf R_f34)) (hR_f35 : AnsOk Try.prog 35 (f35_cOf R_f35)) (k : Nat) (K : Out → Option X)  (r1 : St → Option X) (v : Int × Int × Nat × Int × (List CV)) : loopB (f24_cx R_f34 R_f35 hR_f34 hR_f35) k [.r, .r, .r, .r, .r, .r, .r, .r, .r, .r, .r, .l, .b] (Try.f24.body.getD .skip) (retK (f24_cx R_f34 R_f35 hR_f34 hR_f35) [] Try.f24.results.toList K) [] r1 (f24_S1 v) = f24_T1 R_f34 R_f35 k (fun u => K (f24_out u))   (fun v => r1 (f24_S1 v)) v := by kernel_rfl
theorem f24_L1_it {X : Type} (R_f34 : f34_R) (R_f35 : f35_R) (hR_f34 : AnsOk Try.prog 34 (f34_cOf R_f34)) (hR_f35 : AnsOk Try.prog 35 (f35_cOf R_f35)) (k : Nat) (K : Out → Option X)  : (fun v => iter (loopB (f24_cx R_f34 R_f35 hR_f34 hR_f35) k [.r, .r, .r, .r, .r, .r, .r, .r, .r, .r, .r, .l, .b] (Try.f24.body.getD .skip) (retK (f24_cx R_f34 R_f35 hR_f34 hR_f35) [] Try.f24.results.toList K) []) k (f24_S1 v)) = iterV (f24_L1 R_f34 R_f35 k (fun u => K (f24_out u)) ) k :=
  iter_map (fun r1 v => (f24_L1_ev R_f34 R_f35 hR_f34 hR_f35 k K  r1 v).trans rfl) k
def f24_T {X : Type} (R_f34 : f34_R) (R_f35 : f35_R) (k : Nat) (K : Nat × (List CV) → Option X) (loop1 : Int × Int × Nat × Int × (List CV) → Option X) (x0 : List CV) (x1 : Int) : Option X :=
(bif (x1 == 0) then
K (0, (List.take 0 []))
else
(bif (decide (x1 < 0)) then
none
else
R_f34 _ (fun u1 =>
(bif (decide (u1.1 > 0)) then
none
else
(bif (decide (u1.2 > 9223372036854775807)) then
none
else
(bif ((Nat.cast ((List.length x0)) : Int) == 0) then
K (0, (List.take 0 []))
else
(bif (decide ((IntKind.wrap .i64 u1.2) > 8192)) then
grd ((Nat.cast ((List.length x0)) : Int) != 0) <|
(bif ((IntKind.wrap .i64 ((IntKind.wrap .i64 (Int.tdiv 8192 (Nat.cast ((List.length x0)) : Int))) * (Nat.cast ((List.length x0)) : Int))) == 0) then
f24_J1 R_f34 R_f35 k K loop1 u1 x0 ((Nat.cast ((List.length x0)) : Int))
else
f24_J1 R_f34 R_f35 k K loop1 u1 x0 ((IntKind.wrap .i64 ((IntKind.wrap .i64 (Int.tdiv 8192 (Nat.cast ((List.length x0)) : Int))) * (Nat.cast ((List.length x0)) : Int)))))
else
f24_J1 R_f34 R_f35 k K loop1 u1 x0 ((IntKind.wrap .i64 u1.2))))))) ((IntKind.wrap .u64 (Nat.cast ((List.length x0)) : Int))) ((IntKind.wrap .u64 x1))))
/-- "bytes.Repeat" -/
def f24_A (R_f34 : f34_R) (R_f35 : f35_R) (k : Nat) : f24_R := fun X K x0 x1 => f24_T R_f34 R_f35 k K (iterV (f24_L1 R_f34 R_f35 k K) k) x0 x1
set_option maxRecDepth 100000 in
theorem f24_ev' {X : Type} (R_f34 : f34_R) (R_f35 : f35_R) (hR_f34 : AnsOk Try.prog 34 (f34_cOf R_f34)) (hR_f35 : AnsOk Try.prog 35 (f35_cOf R_f35)) (k : Nat) (K : Out → Option X) (x0 : List CV) (x1 : Int) : evFn (f24_cx R_f34 R_f35 hR_f34 hR_f35) [] k Try.f24.ntmps Try.f24.results.toList (Try.f24.body.getD .skip) [(.sl false none x0), (.v (CV.int .i64 x1))] [] K = f24_T R_f34 R_f35 k (fun u => K (f24_out u)) (fun v => iter (loopB (f24_cx R_f34 R_f35 hR_f34 hR_f35) k [.r, .r, .r, .r, .r, .r, .r, .r, .r, .r, .r, .l, .b] (Try.f24.body.getD .skip) (retK (f24_cx R_f34 R_f35 hR_f34 hR_f35) [] Try.f24.results.toList K) []) k (f24_S1 v)) x0 x1 := by kernel_rfl
theorem f24_ev {X : Type} (R_f34 : f34_R) (R_f35 : f35_R) (hR_f34 : AnsOk Try.prog 34 (f34_cOf R_f34)) (hR_f35 : AnsOk Try.prog 35 (f35_cOf R_f35)) (k : Nat) (K : Out → Option X) (x0 : List CV) (x1 : Int) : evFn (f24_cx R_f34 R_f35 hR_f34 hR_f35) [] k Try.f24.ntmps Try.f24.results.toList (Try.f24.body.getD .skip) [(.sl false none x0), (.v (CV.int .i64 x1))] [] K = f24_A R_f34 R_f35 k X (fun u => K (f24_out u)) x0 x1 := (f24_ev' R_f34 R_f35 hR_f34 hR_f35 k K x0 x1).trans (by rw [f24_L1_it R_f34 R_f35 hR_f34 hR_f35 k K]; rfl)
theorem f24_okA (R_f34 : f34_R) (R_f35 : f35_R) (hR_f34 : AnsOk Try.prog 34 (f34_cOf R_f34)) (hR_f35 : AnsOk Try.prog 35 (f35_cOf R_f35)) (k : Nat) : AnsOk Try.prog 24 (f24_cOf (f24_A R_f34 R_f35 k)) := by
  intro X xs ns K x h
  unfold f24_cOf at h ⊢
  split at h
  · exact ans_main S (f24_Cok R_f34 R_f35 hR_f34 hR_f35) Try.func24 (ent_of Try.func24 (by kernel_rfl) rfl) rfl (fun X K => f24_ev R_f34 R_f35 hR_f34 hR_f35 k K _ _) h
  · cases h
/-- "bytes.Repeat" -/
def f24 {X : Type} (k : Nat) (K : Nat × (List CV) → Option X) (x0 : List CV) (x1 : Int) : Option X := f24_A (fun X => @f34 X k) (fun X => @f35 X k) k X K x0 x1
theorem f24_ok (k : Nat) : AnsOk Try.prog 24 (f24_cOf (fun X => @f24 X k)) := f24_okA (fun X => @f34 X k) (fun X => @f35 X k) (f34_ok k) (f35_ok k) k
abbrev f6_R : Type 1 := (X : Type) → (Nat × Int × Nat × (List CV) × (List CV) → Option X) → Int → Int → Option X
def f6_out (u : Nat × Int × Nat × (List CV) × (List CV)) : Out := ⟨(.ptr [2000] 0 0 0), [([2000], (.obj [(.osl [0, 2000] none 0 u.1), (.v (CV.int .i64 u.2.1)), (.osl [2, 2000] none 0 u.2.2.1), (.v (CV.int .i64 0)), (.v (CV.int .i64 (-1))), (.v (CV.bool false))])), ([0, 2000], (.row false none u.2.2.2.1)), ([2, 2000], (.row false none u.2.2.2.2))]⟩
def f6_cOf (R : f6_R) : FnC := fun X xs ns K => match xs, ns with
  | [(.v (CV.int .i64 x0)), (.v (CV.int .i64 x1))], [] => R X (fun u => K (f6_out u)) x0 x1
  | _, _ => none
def f6_plan : Nat → Option (List Nat × List Wk)
  | 0 => some ([0, 1], [])
  | 1 => some ([0, 1], [])
  | 2 => some ([0, 1], [])
  | 3 => some ([0, 1], [])
  | _ => none
def f6_C (R_f24 : f24_R) : Fns := (orC 24 (f24_cOf R_f24) noC)
theorem f6_Cok (R_f24 : f24_R) (hR_f24 : AnsOk Try.prog 24 (f24_cOf R_f24)) : CsOk Try.prog (f6_C R_f24) := (orC_ok hR_f24 noC_ok)
def f6_cx (R_f24 : f24_R) (hR_f24 : AnsOk Try.prog 24 (f24_cOf R_f24)) : Cx := mkCx (tabOf rows) (f6_C R_f24) md (cmpIn cmps) f6_plan (f6_Cok R_f24 hR_f24)
def f6_T {X : Type} (R_f24 : f24_R) (k : Nat) (K : Nat × Int × Nat × (List CV) × (List CV) → Option X)  (x0 : Int) (x1 : Int) : Option X :=
R_f24 _ (fun u1 =>
grd (decide (0 ≤ (if 64 < (if 1 > x0 then 1 else x0) then 64 else (if 1 > x0 then 1 else x0)))) <|
grd (decide ((if 64 < (if 1 > x0 then 1 else x0) then 64 else (if 1 > x0 then 1 else x0)) ≤ (if 64 < (if 1 > x0 then 1 else x0) then 64 else (if 1 > x0 then 1 else x0)))) <|
grd (decide (((if 64 < (if 1 > x0 then 1 else x0) then 64 else (if 1 > x0 then 1 else x0)) * 8) ≤ 140737488355328)) <|
K (u1.1, (if 4096 < (if 16 > x1 then 16 else x1) then 4096 else (if 16 > x1 then 16 else x1)), (Int.toNat (if 64 < (if 1 > x0 then 1 else x0) then 64 else (if 1 > x0 then 1 else x0))), (List.take (0 + u1.1) u1.2), (List.take (0 + (Int.toNat (if 64 < (if 1 > x0 then 1 else x0) then 64 else (if 1 > x0 then 1 else x0)))) (List.replicate (Int.toNat (if 64 < (if 1 > x0 then 1 else x0) then 64 else (if 1 > x0 then 1 else x0))) (CV.int .i64 0))))) ((List.take 1 (List.drop 0 [(CV.int .u8 255)]))) ((IntKind.wrap .i64 ((if 64 < (if 1 > x0 then 1 else x0) then 64 else (if 1 > x0 then 1 else x0)) * (if 4096 < (if 16 > x1 then 16 else x1) then 4096 else (if 16 > x1 then 16 else x1)))))
/-- "outpost/flash.New" -/
def f6_A (R_f24 : f24_R) (k : Nat) : f6_R := fun X K x0 x1 => f6_T R_f24 k K  x0 x1
set_option maxRecDepth 100000 in
theorem f6_ev' {X : Type} (R_f24 : f24_R) (hR_f24 : AnsOk Try.prog 24 (f24_cOf R_f24)) (k : Nat) (K : Out → Option X) (x0 : Int) (x1 : Int) : evFn (f6_cx R_f24 hR_f24) [] k Try.f6.ntmps Try.f6.results.toList (Try.f6.body.getD .skip) [(.v (CV.int .i64 x0)), (.v (CV.int .i64 x1))] [] K = f6_T R_f24 k (fun u => K (f6_out u)) x0 x1 := by kernel_rfl
theorem f6_ev {X : Type} (R_f24 : f24_R) (hR_f24 : AnsOk Try.prog 24 (f24_cOf R_f24)) (k : Nat) (K : Out → Option X) (x0 : Int) (x1 : Int) : evFn (f6_cx R_f24 hR_f24) [] k Try.f6.ntmps Try.f6.results.toList (Try.f6.body.getD .skip) [(.v (CV.int .i64 x0)), (.v (CV.int .i64 x1))] [] K = f6_A R_f24 k X (fun u => K (f6_out u)) x0 x1 := (f6_ev' R_f24 hR_f24 k K x0 x1).trans rfl
theorem f6_okA (R_f24 : f24_R) (hR_f24 : AnsOk Try.prog 24 (f24_cOf R_f24)) (k : Nat) : AnsOk Try.prog 6 (f6_cOf (f6_A R_f24 k)) := by
  intro X xs ns K x h
  unfold f6_cOf at h ⊢
  split at h
  · exact ans_main S (f6_Cok R_f24 hR_f24) Try.func6 (ent_of Try.func6 (by kernel_rfl) rfl) rfl (fun X K => f6_ev R_f24 hR_f24 k K _ _) h
  · cases h
/-- "outpost/flash.New" -/
def f6 {X : Type} (k : Nat) (K : Nat × Int × Nat × (List CV) × (List CV) → Option X) (x0 : Int) (x1 : Int) : Option X := f6_A (fun X => @f24 X k) k X K x0 x1
theorem f6_ok (k : Nat) : AnsOk Try.prog 6 (f6_cOf (fun X => @f6 X k)) := f6_okA (fun X => @f24 X k) (f24_ok k) k
abbrev f25_R : Type 1 := (X : Type) → (Int × Nat × Int × Nat × Int × Int × Bool × (List CV) × (List CV) → Option X) → Nat → Int → Nat → Int → Int → Bool → (List CV) → (List CV) → Option X
def f25_out (u : Int × Nat × Int × Nat × Int × Int × Bool × (List CV) × (List CV)) : Out := ⟨(.v (CV.int .i64 u.1)), [([1000], (.obj [(.osl [0, 1000] none 0 u.2.1), (.v (CV.int .i64 u.2.2.1)), (.osl [2, 1000] none 0 u.2.2.2.1), (.v (CV.int .i64 u.2.2.2.2.1)), (.v (CV.int .i64 u.2.2.2.2.2.1)), (.v (CV.bool u.2.2.2.2.2.2.1))])), ([0, 1000], (.row false none u.2.2.2.2.2.2.2.1)), ([2, 1000], (.row false none u.2.2.2.2.2.2.2.2))]⟩
def f25_cOf (R : f25_R) : FnC := fun X xs ns K => match xs, ns with
  | [(.ptr [1000] 0 0 0)], [([1000], (.obj [(.osl [0, 1000] none 0 x0), (.v (CV.int .i64 x1)), (.osl [2, 1000] none 0 x2), (.v (CV.int .i64 x3)), (.v (CV.int .i64 x4)), (.v (CV.bool x5))])), ([0, 1000], (.row false none x6)), ([2, 1000], (.row false none x7))] => R X (fun u => K (f25_out u)) x0 x1 x2 x3 x4 x5 x6 x7
  | _, _ => none
def f25_plan : Nat → Option (List Nat × List Wk)
  | 0 => some ([0], [])
  | 1 => some ([0], [])
  | _ => none
def f25_C : Fns := noC
theorem f25_Cok : CsOk Try.prog (f25_C) := noC_ok
def f25_cx : Cx := mkCx (tabOf rows) (f25_C) md (cmpIn cmps) f25_plan (f25_Cok)
def f25_T {X : Type} (k : Nat) (K : Int × Nat × Int × Nat × Int × Int × Bool × (List CV) × (List CV) → Option X)  (x0 : Nat) (x1 : Int) (x2 : Nat) (x3 : Int) (x4 : Int) (x5 : Bool) (x6 : List CV) (x7 : List CV) : Option X :=
K ((Nat.cast (x0) : Int), x0, x1, x2, x3, x4, x5, (List.take (0 + x0) x6), (List.take (0 + x2) x7))
/-- "(*outpost/flash.Flash).Size" -/
def f25_A (k : Nat) : f25_R := fun X K x0 x1 x2 x3 x4 x5 x6 x7 => f25_T k K  x0 x1 x2 x3 x4 x5 x6 x7
set_option maxRecDepth 100000 in
theorem f25_ev' {X : Type} (k : Nat) (K : Out → Option X) (x0 : Nat) (x1 : Int) (x2 : Nat) (x3 : Int) (x4 : Int) (x5 : Bool) (x6 : List CV) (x7 : List CV) : evFn (f25_cx) [] k Try.f25.ntmps Try.f25.results.toList (Try.f25.body.getD .skip) [(.ptr [1000] 0 0 0)] [([1000], (.obj [(.osl [0, 1000] none 0 x0), (.v (CV.int .i64 x1)), (.osl [2, 1000] none 0 x2), (.v (CV.int .i64 x3)), (.v (CV.int .i64 x4)), (.v (CV.bool x5))])), ([0, 1000], (.row false none x6)), ([2, 1000], (.row false none x7))] K = f25_T k (fun u => K (f25_out u)) x0 x1 x2 x3 x4 x5 x6 x7 := by kernel_rfl
theorem f25_ev {X : Type} (k : Nat) (K : Out → Option X) (x0 : Nat) (x1 : Int) (x2 : Nat) (x3 : Int) (x4 : Int) (x5 : Bool) (x6 : List CV) (x7 : List CV) : evFn (f25_cx) [] k Try.f25.ntmps Try.f25.results.toList (Try.f25.body.getD .skip) [(.ptr [1000] 0 0 0)] [([1000], (.obj [(.osl [0, 1000] none 0 x0), (.v (CV.int .i64 x1)), (.osl [2, 1000] none 0 x2), (.v (CV.int .i64 x3)), (.v (CV.int .i64 x4)), (.v (CV.bool x5))])), ([0, 1000], (.row false none x6)), ([2, 1000], (.row false none x7))] K = f25_A k X (fun u => K (f25_out u)) x0 x1 x2 x3 x4 x5 x6 x7 := (f25_ev' k K x0 x1 x2 x3 x4 x5 x6 x7).trans rfl
theorem f25_okA (k : Nat) : AnsOk Try.prog 25 (f25_cOf (f25_A k)) := by
  intro X xs ns K x h
  unfold f25_cOf at h ⊢
  split at h
  · exact ans_main S (f25_Cok) Try.func25 (ent_of Try.func25 (by kernel_rfl) rfl) rfl (fun X K => f25_ev k K _ _ _ _ _ _ _ _) h
  · cases h
/-- "(*outpost/flash.Flash).Size" -/
def f25 {X : Type} (k : Nat) (K : Int × Nat × Int × Nat × Int × Int × Bool × (List CV) × (List CV) → Option X) (x0 : Nat) (x1 : Int) (x2 : Nat) (x3 : Int) (x4 : Int) (x5 : Bool) (x6 : List CV) (x7 : List CV) : Option X := f25_A k X K x0 x1 x2 x3 x4 x5 x6 x7
theorem f25_ok (k : Nat) : AnsOk Try.prog 25 (f25_cOf (fun X => @f25 X k)) := f25_okA k
abbrev f19_R : Type 1 := (X : Type) → (Int × Nat × Int × Nat × Int × Int × Bool × (List CV) × (List CV) → Option X) → Nat → Int → Nat → Int → Int → Bool → (List CV) → (List CV) → Option X
def f19_out (u : Int × Nat × Int × Nat × Int × Int × Bool × (List CV) × (List CV)) : Out := ⟨(.v (CV.int .i64 u.1)), [([1000], (.obj [(.osl [0, 1000] none 0 u.2.1), (.v (CV.int .i64 u.2.2.1)), (.osl [2, 1000] none 0 u.2.2.2.1), (.v (CV.int .i64 u.2.2.2.2.1)), (.v (CV.int .i64 u.2.2.2.2.2.1)), (.v (CV.bool u.2.2.2.2.2.2.1))])), ([0, 1000], (.row false none u.2.2.2.2.2.2.2.1)), ([2, 1000], (.row false none u.2.2.2.2.2.2.2.2))]⟩
def f19_cOf (R : f19_R) : FnC := fun X xs ns K => match xs, ns with
  | [(.ptr [1000] 0 0 0)], [([1000], (.obj [(.osl [0, 1000] none 0 x0), (.v (CV.int .i64 x1)), (.osl [2, 1000] none 0 x2), (.v (CV.int .i64 x3)), (.v (CV.int .i64 x4)), (.v (CV.bool x5))])), ([0, 1000], (.row false none x6)), ([2, 1000], (.row false none x7))] => R X (fun u => K (f19_out u)) x0 x1 x2 x3 x4 x5 x6 x7
  | _, _ => none
def f19_plan : Nat → Option (List Nat × List Wk)
  | 0 => some ([0], [])
  | 1 => some ([0], [])
  | _ => none
def f19_C : Fns := noC
theorem f19_Cok : CsOk Try.prog (f19_C) := noC_ok
def f19_cx : Cx := mkCx (tabOf rows) (f19_C) md (cmpIn cmps) f19_plan (f19_Cok)
def f19_T {X : Type} (k : Nat) (K : Int × Nat × Int × Nat × Int × Int × Bool × (List CV) × (List CV) → Option X)  (x0 : Nat) (x1 : Int) (x2 : Nat) (x3 : Int) (x4 : Int) (x5 : Bool) (x6 : List CV) (x7 : List CV) : Option X :=
K (x1, x0, x1, x2, x3, x4, x5, (List.take (0 + x0) x6), (List.take (0 + x2) x7))
/-- "(*outpost/flash.Flash).Sector" -/
def f19_A (k : Nat) : f19_R := fun X K x0 x1 x2 x3 x4 x5 x6 x7 => f19_T k K  x0 x1 x2 x3 x4 x5 x6 x7
set_option maxRecDepth 100000 in
theorem f19_ev' {X : Type} (k : Nat) (K : Out → Option X) (x0 : Nat) (x1 : Int) (x2 : Nat) (x3 : Int) (x4 : Int) (x5 : Bool) (x6 : List CV) (x7 : List CV) : evFn (f19_cx) [] k Try.f19.ntmps Try.f19.results.toList (Try.f19.body.getD .skip) [(.ptr [1000] 0 0 0)] [([1000], (.obj [(.osl [0, 1000] none 0 x0), (.v (CV.int .i64 x1)), (.osl [2, 1000] none 0 x2), (.v (CV.int .i64 x3)), (.v (CV.int .i64 x4)), (.v (CV.bool x5))])), ([0, 1000], (.row false none x6)), ([2, 1000], (.row false none x7))] K = f19_T k (fun u => K (f19_out u)) x0 x1 x2 x3 x4 x5 x6 x7 := by kernel_rfl
theorem f19_ev {X : Type} (k : Nat) (K : Out → Option X) (x0 : Nat) (x1 : Int) (x2 : Nat) (x3 : Int) (x4 : Int) (x5 : Bool) (x6 : List CV) (x7 : List CV) : evFn (f19_cx) [] k Try.f19.ntmps Try.f19.results.toList (Try.f19.body.getD .skip) [(.ptr [1000] 0 0 0)] [([1000], (.obj [(.osl [0, 1000] none 0 x0), (.v (CV.int .i64 x1)), (.osl [2, 1000] none 0 x2), (.v (CV.int .i64 x3)), (.v (CV.int .i64 x4)), (.v (CV.bool x5))])), ([0, 1000], (.row false none x6)), ([2, 1000], (.row false none x7))] K = f19_A k X (fun u => K (f19_out u)) x0 x1 x2 x3 x4 x5 x6 x7 := (f19_ev' k K x0 x1 x2 x3 x4 x5 x6 x7).trans rfl
theorem f19_okA (k : Nat) : AnsOk Try.prog 19 (f19_cOf (f19_A k)) := by
  intro X xs ns K x h
  unfold f19_cOf at h ⊢
  split at h
  · exact ans_main S (f19_Cok) Try.func19 (ent_of Try.func19 (by kernel_rfl) rfl) rfl (fun X K => f19_ev k K _ _ _ _ _ _ _ _) h
  · cases h
/-- "(*outpost/flash.Flash).Sector" -/
def f19 {X : Type} (k : Nat) (K : Int × Nat × Int × Nat × Int × Int × Bool × (List CV) × (List CV) → Option X) (x0 : Nat) (x1 : Int) (x2 : Nat) (x3 : Int) (x4 : Int) (x5 : Bool) (x6 : List CV) (x7 : List CV) : Option X := f19_A k X K x0 x1 x2 x3 x4 x5 x6 x7
theorem f19_ok (k : Nat) : AnsOk Try.prog 19 (f19_cOf (fun X => @f19 X k)) := f19_okA k
abbrev f7_R : Type 1 := (X : Type) → (Sum (Nat × Int × Nat × Int × Int × Bool × (List CV) × (List CV)) (Nat × Int × Nat × Int × Int × Bool × (List CV) × (List CV) × Int × Int) → Option X) → Int → Int → Nat → Int → Nat → Int → Int → Bool → (List CV) → (List CV) → Option X
def f7_out {X : Type} (K : Out → Option X) : Sum (Nat × Int × Nat × Int × Int × Bool × (List CV) × (List CV)) (Nat × Int × Nat × Int × Int × Bool × (List CV) × (List CV) × Int × Int) → Option X := (Sum.elim (fun u : Nat × Int × Nat × Int × Int × Bool × (List CV) × (List CV) => K ⟨(.tup [(.v CV.nilp), (.v (CV.int .i64 1))]), [([1000], (.obj [(.osl [0, 1000] none 0 u.1), (.v (CV.int .i64 u.2.1)), (.osl [2, 1000] none 0 u.2.2.1), (.v (CV.int .i64 u.2.2.2.1)), (.v (CV.int .i64 u.2.2.2.2.1)), (.v (CV.bool u.2.2.2.2.2.1))])), ([0, 1000], (.row false none u.2.2.2.2.2.2.1)), ([2, 1000], (.row false none u.2.2.2.2.2.2.2))]⟩) (fun u : Nat × Int × Nat × Int × Int × Bool × (List CV) × (List CV) × Int × Int => K ⟨(.tup [(.ptr [0, 2000] 0 0 0), (.v (CV.int .i64 0))]), [([1000], (.obj [(.osl [0, 1000] none 0 u.1), (.v (CV.int .i64 u.2.1)), (.osl [2, 1000] none 0 u.2.2.1), (.v (CV.int .i64 u.2.2.2.1)), (.v (CV.int .i64 u.2.2.2.2.1)), (.v (CV.bool u.2.2.2.2.2.1))])), ([0, 1000], (.row false none u.2.2.2.2.2.2.1)), ([2, 1000], (.row false none u.2.2.2.2.2.2.2.1)), ([0, 2000], (.obj [(.ptr [1000] 0 0 0), (.v (CV.int .i64 u.2.2.2.2.2.2.2.2.1)), (.v (CV.int .i64 u.2.2.2.2.2.2.2.2.2))]))]⟩))
def f7_cOf (R : f7_R) : FnC := fun X xs ns K => match xs, ns with
  | [(.ptr [1000] 0 0 0), (.v (CV.int .i64 x0)), (.v (CV.int .i64 x1))], [([1000], (.obj [(.osl [0, 1000] none 0 x2), (.v (CV.int .i64 x3)), (.osl [2, 1000] none 0 x4), (.v (CV.int .i64 x5)), (.v (CV.int .i64 x6)), (.v (CV.bool x7))])), ([0, 1000], (.row false none x8)), ([2, 1000], (.row false none x9))] => R X (f7_out K) x0 x1 x2 x3 x4 x5 x6 x7 x8 x9
  | _, _ => none
def f7_plan : Nat → Option (List Nat × List Wk)
  | 0 => some ([0, 1, 2], [])
  | 1 => some ([0, 1, 2], [])
  | 2 => some ([0, 1, 2, 8], [])
  | 3 => some ([], [])
  | 4 => some ([0, 1, 2], [])
  | _ => none
def f7_C (R_f25 : f25_R) (R_f19 : f19_R) : Fns := (orC 19 (f19_cOf R_f19) (orC 25 (f25_cOf R_f25) noC))
theorem f7_Cok (R_f25 : f25_R) (R_f19 : f19_R) (hR_f25 : AnsOk Try.prog 25 (f25_cOf R_f25)) (hR_f19 : AnsOk Try.prog 19 (f19_cOf R_f19)) : CsOk Try.prog (f7_C R_f25 R_f19) := (orC_ok hR_f19 (orC_ok hR_f25 noC_ok))
def f7_cx (R_f25 : f25_R) (R_f19 : f19_R) (hR_f25 : AnsOk Try.prog 25 (f25_cOf R_f25)) (hR_f19 : AnsOk Try.prog 19 (f19_cOf R_f19)) : Cx := mkCx (tabOf rows) (f7_C R_f25 R_f19) md (cmpIn cmps) f7_plan (f7_Cok R_f25 R_f19 hR_f25 hR_f19)
def f7_T {X : Type} (R_f25 : f25_R) (R_f19 : f19_R) (k : Nat) (K : Sum (Nat × Int × Nat × Int × Int × Bool × (List CV) × (List CV)) (Nat × Int × Nat × Int × Int × Bool × (List CV) × (List CV) × Int × Int) → Option X)  (x0 : Int) (x1 : Int) (x2 : Nat) (x3 : Int) (x4 : Nat) (x5 : Int) (x6 : Int) (x7 : Bool) (x8 : List CV) (x9 : List CV) : Option X :=
R_f25 _ (fun u1 =>
R_f19 _ (fun u2 =>
grd (u2.1 != 0) <|
(bif (decide (x1 < 1)) then
K (.inl (u2.2.1, u2.2.2.1, u2.2.2.2.1, u2.2.2.2.2.1, u2.2.2.2.2.2.1, u2.2.2.2.2.2.2.1, (List.take (0 + u2.2.1) u2.2.2.2.2.2.2.2.1), (List.take (0 + u2.2.2.2.1) u2.2.2.2.2.2.2.2.2)))
else
(bif (decide (x0 < 0)) then
K (.inl (u2.2.1, u2.2.2.1, u2.2.2.2.1, u2.2.2.2.2.1, u2.2.2.2.2.2.1, u2.2.2.2.2.2.2.1, (List.take (0 + u2.2.1) u2.2.2.2.2.2.2.2.1), (List.take (0 + u2.2.2.2.1) u2.2.2.2.2.2.2.2.2)))
else
(bif (decide (x0 ≥ (IntKind.wrap .i64 (Int.tdiv u1.1 u2.1)))) then
K (.inl (u2.2.1, u2.2.2.1, u2.2.2.2.1, u2.2.2.2.2.1, u2.2.2.2.2.2.1, u2.2.2.2.2.2.2.1, (List.take (0 + u2.2.1) u2.2.2.2.2.2.2.2.1), (List.take (0 + u2.2.2.2.1) u2.2.2.2.2.2.2.2.2)))
else
(bif (decide (x1 > (IntKind.wrap .i64 ((IntKind.wrap .i64 (Int.tdiv u1.1 u2.1)) - x0)))) then
K (.inl (u2.2.1, u2.2.2.1, u2.2.2.2.1, u2.2.2.2.2.1, u2.2.2.2.2.2.1, u2.2.2.2.2.2.2.1, (List.take (0 + u2.2.1) u2.2.2.2.2.2.2.2.1), (List.take (0 + u2.2.2.2.1) u2.2.2.2.2.2.2.2.2)))
else
K (.inr (u2.2.1, u2.2.2.1, u2.2.2.2.1, u2.2.2.2.2.1, u2.2.2.2.2.2.1, u2.2.2.2.2.2.2.1, (List.take (0 + u2.2.1) u2.2.2.2.2.2.2.2.1), (List.take (0 + u2.2.2.2.1) u2.2.2.2.2.2.2.2.2), x0, x1))))))) (u1.2.1) (u1.2.2.1) (u1.2.2.2.1) (u1.2.2.2.2.1) (u1.2.2.2.2.2.1) (u1.2.2.2.2.2.2.1) (u1.2.2.2.2.2.2.2.1) (u1.2.2.2.2.2.2.2.2)) (x2) (x3) (x4) (x5) (x6) (x7) (x8) (x9)
/-- "outpost/part.New" -/
def f7_A (R_f25 : f25_R) (R_f19 : f19_R) (k : Nat) : f7_R := fun X K x0 x1 x2 x3 x4 x5 x6 x7 x8 x9 => f7_T R_f25 R_f19 k K  x0 x1 x2 x3 x4 x5 x6 x7 x8 x9
set_option maxRecDepth 100000 in
theorem f7_ev' {X : Type} (R_f25 : f25_R) (R_f19 : f19_R) (hR_f25 : AnsOk Try.prog 25 (f25_cOf R_f25)) (hR_f19 : AnsOk Try.prog 19 (f19_cOf R_f19)) (k : Nat) (K : Out → Option X) (x0 : Int) (x1 : Int) (x2 : Nat) (x3 : Int) (x4 : Nat) (x5 : Int) (x6 : Int) (x7 : Bool) (x8 : List CV) (x9 : List CV) : evFn (f7_cx R_f25 R_f19 hR_f25 hR_f19) [] k Try.f7.ntmps Try.f7.results.toList (Try.f7.body.getD .skip) [(.ptr [1000] 0 0 0), (.v (CV.int .i64 x0)), (.v (CV.int .i64 x1))] [([1000], (.obj [(.osl [0, 1000] none 0 x2), (.v (CV.int .i64 x3)), (.osl [2, 1000] none 0 x4), (.v (CV.int .i64 x5)), (.v (CV.int .i64 x6)), (.v (CV.bool x7))])), ([0, 1000], (.row false none x8)), ([2, 1000], (.row false none x9))] K = f7_T R_f25 R_f19 k (f7_out K) x0 x1 x2 x3 x4 x5 x6 x7 x8 x9 := by kernel_rfl
theorem f7_ev {X : Type} (R_f25 : f25_R) (R_f19 : f19_R) (hR_f25 : AnsOk Try.prog 25 (f25_cOf R_f25)) (hR_f19 : AnsOk Try.prog 19 (f19_cOf R_f19)) (k : Nat) (K : Out → Option X) (x0 : Int) (x1 : Int) (x2 : Nat) (x3 : Int) (x4 : Nat) (x5 : Int) (x6 : Int) (x7 : Bool) (x8 : List CV) (x9 : List CV) : evFn (f7_cx R_f25 R_f19 hR_f25 hR_f19) [] k Try.f7.ntmps Try.f7.results.toList (Try.f7.body.getD .skip) [(.ptr [1000] 0 0 0), (.v (CV.int .i64 x0)), (.v (CV.int .i64 x1))] [([1000], (.obj [(.osl [0, 1000] none 0 x2), (.v (CV.int .i64 x3)), (.osl [2, 1000] none 0 x4), (.v (CV.int .i64 x5)), (.v (CV.int .i64 x6)), (.v (CV.bool x7))])), ([0, 1000], (.row false none x8)), ([2, 1000], (.row false none x9))] K = f7_A R_f25 R_f19 k X (f7_out K) x0 x1 x2 x3 x4 x5 x6 x7 x8 x9 := (f7_ev' R_f25 R_f19 hR_f25 hR_f19 k K x0 x1 x2 x3 x4 x5 x6 x7 x8 x9).trans rfl
theorem f7_okA (R_f25 : f25_R) (R_f19 : f19_R) (hR_f25 : AnsOk Try.prog 25 (f25_cOf R_f25)) (hR_f19 : AnsOk Try.prog 19 (f19_cOf R_f19)) (k : Nat) : AnsOk Try.prog 7 (f7_cOf (f7_A R_f25 R_f19 k)) := by
  intro X xs ns K x h
  unfold f7_cOf at h ⊢
  split at h
  · exact ans_main S (f7_Cok R_f25 R_f19 hR_f25 hR_f19) Try.func7 (ent_of Try.func7 (by kernel_rfl) rfl) rfl (fun X K => f7_ev R_f25 R_f19 hR_f25 hR_f19 k K _ _ _ _ _ _ _ _ _ _) h
  · cases h
/-- "outpost/part.New" -/
def f7 {X : Type} (k : Nat) (K : Sum (Nat × Int × Nat × Int × Int × Bool × (List CV) × (List CV)) (Nat × Int × Nat × Int × Int × Bool × (List CV) × (List CV) × Int × Int) → Option X) (x0 : Int) (x1 : Int) (x2 : Nat) (x3 : Int) (x4 : Nat) (x5 : Int) (x6 : Int) (x7 : Bool) (x8 : List CV) (x9 : List CV) : Option X := f7_A (fun X => @f25 X k) (fun X => @f19 X k) k X K x0 x1 x2 x3 x4 x5 x6 x7 x8 x9
theorem f7_ok (k : Nat) : AnsOk Try.prog 7 (f7_cOf (fun X => @f7 X k)) := f7_okA (fun X => @f25 X k) (fun X => @f19 X k) (f25_ok k) (f19_ok k) k
abbrev f13_R : Type 1 := (X : Type) → (Int × Int × Int × Nat × Int × Nat × Int × Int × Bool × (List CV) × (List CV) → Option X) → Int → Int → Nat → Int → Nat → Int → Int → Bool → (List CV) → (List CV) → Option X
def f13_out (u : Int × Int × Int × Nat × Int × Nat × Int × Int × Bool × (List CV) × (List CV)) : Out := ⟨(.v (CV.int .i64 u.1)), [([1000], (.obj [(.ptr [1100] 0 0 0), (.v (CV.int .i64 u.2.1)), (.v (CV.int .i64 u.2.2.1))])), ([1100], (.obj [(.osl [0, 1100] none 0 u.2.2.2.1), (.v (CV.int .i64 u.2.2.2.2.1)), (.osl [2, 1100] none 0 u.2.2.2.2.2.1), (.v (CV.int .i64 u.2.2.2.2.2.2.1)), (.v (CV.int .i64 u.2.2.2.2.2.2.2.1)), (.v (CV.bool u.2.2.2.2.2.2.2.2.1))])), ([0, 1100], (.row false none u.2.2.2.2.2.2.2.2.2.1)), ([2, 1100], (.row false none u.2.2.2.2.2.2.2.2.2.2))]⟩
def f13_cOf (R : f13_R) : FnC := fun X xs ns K => match xs, ns with
  | [(.ptr [1000] 0 0 0)], [([1000], (.obj [(.ptr [1100] 0 0 0), (.v (CV.int .i64 x0)), (.v (CV.int .i64 x1))])), ([1100], (.obj [(.osl [0, 1100] none 0 x2), (.v (CV.int .i64 x3)), (.osl [2, 1100] none 0 x4), (.v (CV.int .i64 x5)), (.v (CV.int .i64 x6)), (.v (CV.bool x7))])), ([0, 1100], (.row false none x8)), ([2, 1100], (.row false none x9))] => R X (fun u => K (f13_out u)) x0 x1 x2 x3 x4 x5 x6 x7 x8 x9
  | _, _ => none
def f13_plan : Nat → Option (List Nat × List Wk)
  | 0 => some ([0], [])
  | 1 => some ([0], [])
  | _ => none
def f13_C (R_f19 : f19_R) : Fns := (orC 19 (f19_cOf R_f19) noC)
theorem f13_Cok (R_f19 : f19_R) (hR_f19 : AnsOk Try.prog 19 (f19_cOf R_f19)) : CsOk Try.prog (f13_C R_f19) := (orC_ok hR_f19 noC_ok)
def f13_cx (R_f19 : f19_R) (hR_f19 : AnsOk Try.prog 19 (f19_cOf R_f19)) : Cx := mkCx (tabOf rows) (f13_C R_f19) md (cmpIn cmps) f13_plan (f13_Cok R_f19 hR_f19)
def f13_T {X : Type} (R_f19 : f19_R) (k : Nat) (K : Int × Int × Int × Nat × Int × Nat × Int × Int × Bool × (List CV) × (List CV) → Option X)  (x0 : Int) (x1 : Int) (x2 : Nat) (x3 : Int) (x4 : Nat) (x5 : Int) (x6 : Int) (x7 : Bool) (x8 : List CV) (x9 : List CV) : Option X :=
R_f19 _ (fun u1 =>
K ((IntKind.wrap .i64 (x1 * u1.1)), x0, x1, u1.2.1, u1.2.2.1, u1.2.2.2.1, u1.2.2.2.2.1, u1.2.2.2.2.2.1, u1.2.2.2.2.2.2.1, (List.take (0 + u1.2.1) u1.2.2.2.2.2.2.2.1), (List.take (0 + u1.2.2.2.1) u1.2.2.2.2.2.2.2.2))) (x2) (x3) (x4) (x5) (x6) (x7) (x8) (x9)
/-- "(*outpost/part.Part).Size" -/
def f13_A (R_f19 : f19_R) (k : Nat) : f13_R := fun X K x0 x1 x2 x3 x4 x5 x6 x7 x8 x9 => f13_T R_f19 k K  x0 x1 x2 x3 x4 x5 x6 x7 x8 x9
set_option maxRecDepth 100000 in
theorem f13_ev' {X : Type} (R_f19 : f19_R) (hR_f19 : AnsOk Try.prog 19 (f19_cOf R_f19)) (k : Nat) (K : Out → Option X) (x0 : Int) (x1 : Int) (x2 : Nat) (x3 : Int) (x4 : Nat) (x5 : Int) (x6 : Int) (x7 : Bool) (x8 : List CV) (x9 : List CV) : evFn (f13_cx R_f19 hR_f19) [] k Try.f13.ntmps Try.f13.results.toList (Try.f13.body.getD .skip) [(.ptr [1000] 0 0 0)] [([1000], (.obj [(.ptr [1100] 0 0 0), (.v (CV.int .i64 x0)), (.v (CV.int .i64 x1))])), ([1100], (.obj [(.osl [0, 1100] none 0 x2), (.v (CV.int .i64 x3)), (.osl [2, 1100] none 0 x4), (.v (CV.int .i64 x5)), (.v (CV.int .i64 x6)), (.v (CV.bool x7))])), ([0, 1100], (.row false none x8)), ([2, 1100], (.row false none x9))] K = f13_T R_f19 k (fun u => K (f13_out u)) x0 x1 x2 x3 x4 x5 x6 x7 x8 x9 := by kernel_rfl
theorem f13_ev {X : Type} (R_f19 : f19_R) (hR_f19 : AnsOk Try.prog 19 (f19_cOf R_f19)) (k : Nat) (K : Out → Option X) (x0 : Int) (x1 : Int) (x2 : Nat) (x3 : Int) (x4 : Nat) (x5 : Int) (x6 : Int) (x7 : Bool) (x8 : List CV) (x9 : List CV) : evFn (f13_cx R_f19 hR_f19) [] k Try.f13.ntmps Try.f13.results.toList (Try.f13.body.getD .skip) [(.ptr [1000] 0 0 0)] [([1000], (.obj [(.ptr [1100] 0 0 0), (.v (CV.int .i64 x0)), (.v (CV.int .i64 x1))])), ([1100], (.obj [(.osl [0, 1100] none 0 x2), (.v (CV.int .i64 x3)), (.osl [2, 1100] none 0 x4), (.v (CV.int .i64 x5)), (.v (CV.int .i64 x6)), (.v (CV.bool x7))])), ([0, 1100], (.row false none x8)), ([2, 1100], (.row false none x9))] K = f13_A R_f19 k X (fun u => K (f13_out u)) x0 x1 x2 x3 x4 x5 x6 x7 x8 x9 := (f13_ev' R_f19 hR_f19 k K x0 x1 x2 x3 x4 x5 x6 x7 x8 x9).trans rfl
theorem f13_okA (R_f19 : f19_R) (hR_f19 : AnsOk Try.prog 19 (f19_cOf R_f19)) (k : Nat) : AnsOk Try.prog 13 (f13_cOf (f13_A R_f19 k)) := by
  intro X xs ns K x h
  unfold f13_cOf at h ⊢
  split at h
  · exact ans_main S (f13_Cok R_f19 hR_f19) Try.func13 (ent_of Try.func13 (by kernel_rfl) rfl) rfl (fun X K => f13_ev R_f19 hR_f19 k K _ _ _ _ _ _ _ _ _ _) h
  · cases h
/-- "(*outpost/part.Part).Size" -/
def f13 {X : Type} (k : Nat) (K : Int × Int × Int × Nat × Int × Nat × Int × Int × Bool × (List CV) × (List CV) → Option X) (x0 : Int) (x1 : Int) (x2 : Nat) (x3 : Int) (x4 : Nat) (x5 : Int) (x6 : Int) (x7 : Bool) (x8 : List CV) (x9 : List CV) : Option X := f13_A (fun X => @f19 X k) k X K x0 x1 x2 x3 x4 x5 x6 x7 x8 x9
theorem f13_ok (k : Nat) : AnsOk Try.prog 13 (f13_cOf (fun X => @f13 X k)) := f13_okA (fun X => @f19 X k) (f19_ok k) k
abbrev f36_R : Type 1 := (X : Type) → (Bool × Nat × Int × Nat × Int × Int × Bool × (List CV) × (List CV) → Option X) → Nat → Int → Nat → Int → Int → Bool → (List CV) → (List CV) → Option X
def f36_out (u : Bool × Nat × Int × Nat × Int × Int × Bool × (List CV) × (List CV)) : Out := ⟨(.v (CV.bool u.1)), [([1000], (.obj [(.osl [0, 1000] none 0 u.2.1), (.v (CV.int .i64 u.2.2.1)), (.osl [2, 1000] none 0 u.2.2.2.1), (.v (CV.int .i64 u.2.2.2.2.1)), (.v (CV.int .i64 u.2.2.2.2.2.1)), (.v (CV.bool u.2.2.2.2.2.2.1))])), ([0, 1000], (.row false none u.2.2.2.2.2.2.2.1)), ([2, 1000], (.row false none u.2.2.2.2.2.2.2.2))]⟩
def f36_cOf (R : f36_R) : FnC := fun X xs ns K => match xs, ns with
  | [(.ptr [1000] 0 0 0)], [([1000], (.obj [(.osl [0, 1000] none 0 x0), (.v (CV.int .i64 x1)), (.osl [2, 1000] none 0 x2), (.v (CV.int .i64 x3)), (.v (CV.int .i64 x4)), (.v (CV.bool x5))])), ([0, 1000], (.row false none x6)), ([2, 1000], (.row false none x7))] => R X (fun u => K (f36_out u)) x0 x1 x2 x3 x4 x5 x6 x7
  | _, _ => none
def f36_plan : Nat → Option (List Nat × List Wk)
  | 0 => some ([0], [])
  | 1 => some ([0], [])
  | _ => none
def f36_C : Fns := noC
theorem f36_Cok : CsOk Try.prog (f36_C) := noC_ok
def f36_cx : Cx := mkCx (tabOf rows) (f36_C) md (cmpIn cmps) f36_plan (f36_Cok)
def f36_T {X : Type} (k : Nat) (K : Bool × Nat × Int × Nat × Int × Int × Bool × (List CV) × (List CV) → Option X)  (x0 : Nat) (x1 : Int) (x2 : Nat) (x3 : Int) (x4 : Int) (x5 : Bool) (x6 : List CV) (x7 : List CV) : Option X :=
K (x5, x0, x1, x2, x3, x4, x5, (List.take (0 + x0) x6), (List.take (0 + x2) x7))
/-- "(*outpost/flash.Flash).Down" -/
def f36_A (k : Nat) : f36_R := fun X K x0 x1 x2 x3 x4 x5 x6 x7 => f36_T k K  x0 x1 x2 x3 x4 x5 x6 x7
set_option maxRecDepth 100000 in
theorem f36_ev' {X : Type} (k : Nat) (K : Out → Option X) (x0 : Nat) (x1 : Int) (x2 : Nat) (x3 : Int) (x4 : Int) (x5 : Bool) (x6 : List CV) (x7 : List CV) : evFn (f36_cx) [] k Try.f36.ntmps Try.f36.results.toList (Try.f36.body.getD .skip) [(.ptr [1000] 0 0 0)] [([1000], (.obj [(.osl [0, 1000] none 0 x0), (.v (CV.int .i64 x1)), (.osl [2, 1000] none 0 x2), (.v (CV.int .i64 x3)), (.v (CV.int .i64 x4)), (.v (CV.bool x5))])), ([0, 1000], (.row false none x6)), ([2, 1000], (.row false none x7))] K = f36_T k (fun u => K (f36_out u)) x0 x1 x2 x3 x4 x5 x6 x7 := by kernel_rfl
theorem f36_ev {X : Type} (k : Nat) (K : Out → Option X) (x0 : Nat) (x1 : Int) (x2 : Nat) (x3 : Int) (x4 : Int) (x5 : Bool) (x6 : List CV) (x7 : List CV) : evFn (f36_cx) [] k Try.f36.ntmps Try.f36.results.toList (Try.f36.body.getD .skip) [(.ptr [1000] 0 0 0)] [([1000], (.obj [(.osl [0, 1000] none 0 x0), (.v (CV.int .i64 x1)), (.osl [2, 1000] none 0 x2), (.v (CV.int .i64 x3)), (.v (CV.int .i64 x4)), (.v (CV.bool x5))])), ([0, 1000], (.row false none x6)), ([2, 1000], (.row false none x7))] K = f36_A k X (fun u => K (f36_out u)) x0 x1 x2 x3 x4 x5 x6 x7 := (f36_ev' k K x0 x1 x2 x3 x4 x5 x6 x7).trans rfl
theorem f36_okA (k : Nat) : AnsOk Try.prog 36 (f36_cOf (f36_A k)) := by
  intro X xs ns K x h
  unfold f36_cOf at h ⊢
  split at h
  · exact ans_main S (f36_Cok) Try.func36 (ent_of Try.func36 (by kernel_rfl) rfl) rfl (fun X K => f36_ev k K _ _ _ _ _ _ _ _) h
  · cases h
/-- "(*outpost/flash.Flash).Down" -/
def f36 {X : Type} (k : Nat) (K : Bool × Nat × Int × Nat × Int × Int × Bool × (List CV) × (List CV) → Option X) (x0 : Nat) (x1 : Int) (x2 : Nat) (x3 : Int) (x4 : Int) (x5 : Bool) (x6 : List CV) (x7 : List CV) : Option X := f36_A k X K x0 x1 x2 x3 x4 x5 x6 x7
theorem f36_ok (k : Nat) : AnsOk Try.prog 36 (f36_cOf (fun X => @f36 X k)) := f36_okA k
abbrev f37_R : Type 1 := (X : Type) → (Bool × Int × Int × Nat × Int × Nat × Int × Int × Bool × (List CV) × (List CV) → Option X) → Int → Int → Int → Int → Nat → Int → Nat → Int → Int → Bool → (List CV) → (List CV) → Option X
def f37_out (u : Bool × Int × Int × Nat × Int × Nat × Int × Int × Bool × (List CV) × (List CV)) : Out := ⟨(.v (CV.bool u.1)), [([1000], (.obj [(.ptr [1100] 0 0 0), (.v (CV.int .i64 u.2.1)), (.v (CV.int .i64 u.2.2.1))])), ([1100], (.obj [(.osl [0, 1100] none 0 u.2.2.2.1), (.v (CV.int .i64 u.2.2.2.2.1)), (.osl [2, 1100] none 0 u.2.2.2.2.2.1), (.v (CV.int .i64 u.2.2.2.2.2.2.1)), (.v (CV.int .i64 u.2.2.2.2.2.2.2.1)), (.v (CV.bool u.2.2.2.2.2.2.2.2.1))])), ([0, 1100], (.row false none u.2.2.2.2.2.2.2.2.2.1)), ([2, 1100], (.row false none u.2.2.2.2.2.2.2.2.2.2))]⟩
def f37_cOf (R : f37_R) : FnC := fun X xs ns K => match xs, ns with
  | [(.ptr [1000] 0 0 0), (.v (CV.int .i64 x0)), (.v (CV.int .i64 x1))], [([1000], (.obj [(.ptr [1100] 0 0 0), (.v (CV.int .i64 x2)), (.v (CV.int .i64 x3))])), ([1100], (.obj [(.osl [0, 1100] none 0 x4), (.v (CV.int .i64 x5)), (.osl [2, 1100] none 0 x6), (.v (CV.int .i64 x7)), (.v (CV.int .i64 x8)), (.v (CV.bool x9))])), ([0, 1100], (.row false none x10)), ([2, 1100], (.row false none x11))] => R X (fun u => K (f37_out u)) x0 x1 x2 x3 x4 x5 x6 x7 x8 x9 x10 x11
  | _, _ => none
def f37_plan : Nat → Option (List Nat × List Wk)
  | 0 => some ([0, 1, 2], [])
  | 1 => some ([0, 1, 2], [])
  | _ => none
def f37_C (R_f13 : f13_R) : Fns := (orC 13 (f13_cOf R_f13) noC)
theorem f37_Cok (R_f13 : f13_R) (hR_f13 : AnsOk Try.prog 13 (f13_cOf R_f13)) : CsOk Try.prog (f37_C R_f13) := (orC_ok hR_f13 noC_ok)
def f37_cx (R_f13 : f13_R) (hR_f13 : AnsOk Try.prog 13 (f13_cOf R_f13)) : Cx := mkCx (tabOf rows) (f37_C R_f13) md (cmpIn cmps) f37_plan (f37_Cok R_f13 hR_f13)
def f37_T {X : Type} (R_f13 : f13_R) (k : Nat) (K : Bool × Int × Int × Nat × Int × Nat × Int × Int × Bool × (List CV) × (List CV) → Option X)  (x0 : Int) (x1 : Int) (x2 : Int) (x3 : Int) (x4 : Nat) (x5 : Int) (x6 : Nat) (x7 : Int) (x8 : Int) (x9 : Bool) (x10 : List CV) (x11 : List CV) : Option X :=
(bif (decide (x0 ≥ 0)) then
(bif (decide (x1 ≥ 0)) then
R_f13 _ (fun u1 =>
(bif (decide (x0 ≤ u1.1)) then
R_f13 _ (fun u2 =>
K ((decide (x1 ≤ (IntKind.wrap .i64 (u2.1 - x0)))), u2.2.1, u2.2.2.1, u2.2.2.2.1, u2.2.2.2.2.1, u2.2.2.2.2.2.1, u2.2.2.2.2.2.2.1, u2.2.2.2.2.2.2.2.1, u2.2.2.2.2.2.2.2.2.1, (List.take (0 + u2.2.2.2.1) u2.2.2.2.2.2.2.2.2.2.1), (List.take (0 + u2.2.2.2.2.2.1) u2.2.2.2.2.2.2.2.2.2.2))) (u1.2.1) (u1.2.2.1) (u1.2.2.2.1) (u1.2.2.2.2.1) (u1.2.2.2.2.2.1) (u1.2.2.2.2.2.2.1) (u1.2.2.2.2.2.2.2.1) (u1.2.2.2.2.2.2.2.2.1) (u1.2.2.2.2.2.2.2.2.2.1) (u1.2.2.2.2.2.2.2.2.2.2)
else
K (false, u1.2.1, u1.2.2.1, u1.2.2.2.1, u1.2.2.2.2.1, u1.2.2.2.2.2.1, u1.2.2.2.2.2.2.1, u1.2.2.2.2.2.2.2.1, u1.2.2.2.2.2.2.2.2.1, (List.take (0 + u1.2.2.2.1) u1.2.2.2.2.2.2.2.2.2.1), (List.take (0 + u1.2.2.2.2.2.1) u1.2.2.2.2.2.2.2.2.2.2)))) (x2) (x3) (x4) (x5) (x6) (x7) (x8) (x9) (x10) (x11)
else
K (false, x2, x3, x4, x5, x6, x7, x8, x9, (List.take (0 + x4) x10), (List.take (0 + x6) x11)))
else
K (false, x2, x3, x4, x5, x6, x7, x8, x9, (List.take (0 + x4) x10), (List.take (0 + x6) x11)))
/-- "(*outpost/part.Part).within" -/
def f37_A (R_f13 : f13_R) (k : Nat) : f37_R := fun X K x0 x1 x2 x3 x4 x5 x6 x7 x8 x9 x10 x11 => f37_T R_f13 k K  x0 x1 x2 x3 x4 x5 x6 x7 x8 x9 x10 x11
set_option maxRecDepth 100000 in
theorem f37_ev' {X : Type} (R_f13 : f13_R) (hR_f13 : AnsOk Try.prog 13 (f13_cOf R_f13)) (k : Nat) (K : Out → Option X) (x0 : Int) (x1 : Int) (x2 : Int) (x3 : Int) (x4 : Nat) (x5 : Int) (x6 : Nat) (x7 : Int) (x8 : Int) (x9 : Bool) (x10 : List CV) (x11 : List CV) : evFn (f37_cx R_f13 hR_f13) [] k Try.f37.ntmps Try.f37.results.toList (Try.f37.body.getD .skip) [(.ptr [1000] 0 0 0), (.v (CV.int .i64 x0)), (.v (CV.int .i64 x1))] [([1000], (.obj [(.ptr [1100] 0 0 0), (.v (CV.int .i64 x2)), (.v (CV.int .i64 x3))])), ([1100], (.obj [(.osl [0, 1100] none 0 x4), (.v (CV.int .i64 x5)), (.osl [2, 1100] none 0 x6), (.v (CV.int .i64 x7)), (.v (CV.int .i64 x8)), (.v (CV.bool x9))])), ([0, 1100], (.row false none x10)), ([2, 1100], (.row false none x11))] K = f37_T R_f13 k (fun u => K (f37_out u)) x0 x1 x2 x3 x4 x5 x6 x7 x8 x9 x10 x11 := by kernel_rfl
theorem f37_ev {X : Type} (R_f13 : f13_R) (hR_f13 : AnsOk Try.prog 13 (f13_cOf R_f13)) (k : Nat) (K : Out → Option X) (x0 : Int) (x1 : Int) (x2 : Int) (x3 : Int) (x4 : Nat) (x5 : Int) (x6 : Nat) (x7 : Int) (x8 : Int) (x9 : Bool) (x10 : List CV) (x11 : List CV) : evFn (f37_cx R_f13 hR_f13) [] k Try.f37.ntmps Try.f37.results.toList (Try.f37.body.getD .skip) [(.ptr [1000] 0 0 0), (.v (CV.int .i64 x0)), (.v (CV.int .i64 x1))] [([1000], (.obj [(.ptr [1100] 0 0 0), (.v (CV.int .i64 x2)), (.v (CV.int .i64 x3))])), ([1100], (.obj [(.osl [0, 1100] none 0 x4), (.v (CV.int .i64 x5)), (.osl [2, 1100] none 0 x6), (.v (CV.int .i64 x7)), (.v (CV.int .i64 x8)), (.v (CV.bool x9))])), ([0, 1100], (.row false none x10)), ([2, 1100], (.row false none x11))] K = f37_A R_f13 k X (fun u => K (f37_out u)) x0 x1 x2 x3 x4 x5 x6 x7 x8 x9 x10 x11 := (f37_ev' R_f13 hR_f13 k K x0 x1 x2 x3 x4 x5 x6 x7 x8 x9 x10 x11).trans rfl
theorem f37_okA (R_f13 : f13_R) (hR_f13 : AnsOk Try.prog 13 (f13_cOf R_f13)) (k : Nat) : AnsOk Try.prog 37 (f37_cOf (f37_A R_f13 k)) := by
  intro X xs ns K x h
  unfold f37_cOf at h ⊢
  split at h
  · exact ans_main S (f37_Cok R_f13 hR_f13) Try.func37 (ent_of Try.func37 (by kernel_rfl) rfl) rfl (fun X K => f37_ev R_f13 hR_f13 k K _ _ _ _ _ _ _ _ _ _ _ _) h
  · cases h
/-- "(*outpost/part.Part).within" -/
def f37 {X : Type} (k : Nat) (K : Bool × Int × Int × Nat × Int × Nat × Int × Int × Bool × (List CV) × (List CV) → Option X) (x0 : Int) (x1 : Int) (x2 : Int) (x3 : Int) (x4 : Nat) (x5 : Int) (x6 : Nat) (x7 : Int) (x8 : Int) (x9 : Bool) (x10 : List CV) (x11 : List CV) : Option X := f37_A (fun X => @f13 X k) k X K x0 x1 x2 x3 x4 x5 x6 x7 x8 x9 x10 x11
theorem f37_ok (k : Nat) : AnsOk Try.prog 37 (f37_cOf (fun X => @f37 X k)) := f37_okA (fun X => @f13 X k) (f13_ok k) k
abbrev f26_R : Type 1 := (X : Type) → (Int × Int × Int × Nat × Int × Nat × Int × Int × Bool × (List CV) × (List CV) → Option X) → Int → Int → Int → Int → Nat → Int → Nat → Int → Int → Bool → (List CV) → (List CV) → Option X
def f26_out (u : Int × Int × Int × Nat × Int × Nat × Int × Int × Bool × (List CV) × (List CV)) : Out := ⟨(.v (CV.int .i64 u.1)), [([1000], (.obj [(.ptr [1100] 0 0 0), (.v (CV.int .i64 u.2.1)), (.v (CV.int .i64 u.2.2.1))])), ([1100], (.obj [(.osl [0, 1100] none 0 u.2.2.2.1), (.v (CV.int .i64 u.2.2.2.2.1)), (.osl [2, 1100] none 0 u.2.2.2.2.2.1), (.v (CV.int .i64 u.2.2.2.2.2.2.1)), (.v (CV.int .i64 u.2.2.2.2.2.2.2.1)), (.v (CV.bool u.2.2.2.2.2.2.2.2.1))])), ([0, 1100], (.row false none u.2.2.2.2.2.2.2.2.2.1)), ([2, 1100], (.row false none u.2.2.2.2.2.2.2.2.2.2))]⟩
def f26_cOf (R : f26_R) : FnC := fun X xs ns K => match xs, ns with
  | [(.ptr [1000] 0 0 0), (.v (CV.int .i64 x0)), (.v (CV.int .i64 x1))], [([1000], (.obj [(.ptr [1100] 0 0 0), (.v (CV.int .i64 x2)), (.v (CV.int .i64 x3))])), ([1100], (.obj [(.osl [0, 1100] none 0 x4), (.v (CV.int .i64 x5)), (.osl [2, 1100] none 0 x6), (.v (CV.int .i64 x7)), (.v (CV.int .i64 x8)), (.v (CV.bool x9))])), ([0, 1100], (.row false none x10)), ([2, 1100], (.row false none x11))] => R X (fun u => K (f26_out u)) x0 x1 x2 x3 x4 x5 x6 x7 x8 x9 x10 x11
  | _, _ => none
def f26_plan : Nat → Option (List Nat × List Wk)
  | 0 => some ([0, 1, 2], [])
  | 1 => some ([0, 1, 2], [])
  | 2 => some ([], [])
  | 3 => some ([0, 1, 2], [])
  | 4 => some ([], [])
  | 5 => some ([], [])
  | _ => none
def f26_C (R_f36 : f36_R) (R_f37 : f37_R) : Fns := (orC 36 (f36_cOf R_f36) (orC 37 (f37_cOf R_f37) noC))
theorem f26_Cok (R_f36 : f36_R) (R_f37 : f37_R) (hR_f36 : AnsOk Try.prog 36 (f36_cOf R_f36)) (hR_f37 : AnsOk Try.prog 37 (f37_cOf R_f37)) : CsOk Try.prog (f26_C R_f36 R_f37) := (orC_ok hR_f36 (orC_ok hR_f37 noC_ok))
def f26_cx (R_f36 : f36_R) (R_f37 : f37_R) (hR_f36 : AnsOk Try.prog 36 (f36_cOf R_f36)) (hR_f37 : AnsOk Try.prog 37 (f37_cOf R_f37)) : Cx := mkCx (tabOf rows) (f26_C R_f36 R_f37) md (cmpIn cmps) f26_plan (f26_Cok R_f36 R_f37 hR_f36 hR_f37)
def f26_T {X : Type} (R_f36 : f36_R) (R_f37 : f37_R) (k : Nat) (K : Int × Int × Int × Nat × Int × Nat × Int × Int × Bool × (List CV) × (List CV) → Option X)  (x0 : Int) (x1 : Int) (x2 : Int) (x3 : Int) (x4 : Nat) (x5 : Int) (x6 : Nat) (x7 : Int) (x8 : Int) (x9 : Bool) (x10 : List CV) (x11 : List CV) : Option X :=
R_f36 _ (fun u3 =>
(bif u3.1 then
K (30, x2, x3, u3.2.1, u3.2.2.1, u3.2.2.2.1, u3.2.2.2.2.1, u3.2.2.2.2.2.1, u3.2.2.2.2.2.2.1, (List.take (0 + u3.2.1) u3.2.2.2.2.2.2.2.1), (List.take (0 + u3.2.2.2.1) u3.2.2.2.2.2.2.2.2))
else
R_f37 _ (fun u4 =>
(bif (!u4.1) then
K (1, u4.2.1, u4.2.2.1, u4.2.2.2.1, u4.2.2.2.2.1, u4.2.2.2.2.2.1, u4.2.2.2.2.2.2.1, u4.2.2.2.2.2.2.2.1, u4.2.2.2.2.2.2.2.2.1, (List.take (0 + u4.2.2.2.1) u4.2.2.2.2.2.2.2.2.2.1), (List.take (0 + u4.2.2.2.2.2.1) u4.2.2.2.2.2.2.2.2.2.2))
else
K (0, u4.2.1, u4.2.2.1, u4.2.2.2.1, u4.2.2.2.2.1, u4.2.2.2.2.2.1, u4.2.2.2.2.2.2.1, u4.2.2.2.2.2.2.2.1, u4.2.2.2.2.2.2.2.2.1, (List.take (0 + u4.2.2.2.1) u4.2.2.2.2.2.2.2.2.2.1), (List.take (0 + u4.2.2.2.2.2.1) u4.2.2.2.2.2.2.2.2.2.2)))) (x0) (x1) (x2) (x3) (u3.2.1) (u3.2.2.1) (u3.2.2.2.1) (u3.2.2.2.2.1) (u3.2.2.2.2.2.1) (u3.2.2.2.2.2.2.1) (u3.2.2.2.2.2.2.2.1) (u3.2.2.2.2.2.2.2.2))) (x4) (x5) (x6) (x7) (x8) (x9) (x10) (x11)
/-- "(*outpost/part.Part).fault" -/
def f26_A (R_f36 : f36_R) (R_f37 : f37_R) (k : Nat) : f26_R := fun X K x0 x1 x2 x3 x4 x5 x6 x7 x8 x9 x10 x11 => f26_T R_f36 R_f37 k K  x0 x1 x2 x3 x4 x5 x6 x7 x8 x9 x10 x11
set_option maxRecDepth 100000 in
theorem f26_ev' {X : Type} (R_f36 : f36_R) (R_f37 : f37_R) (hR_f36 : AnsOk Try.prog 36 (f36_cOf R_f36)) (hR_f37 : AnsOk Try.prog 37 (f37_cOf R_f37)) (k : Nat) (K : Out → Option X) (x0 : Int) (x1 : Int) (x2 : Int) (x3 : Int) (x4 : Nat) (x5 : Int) (x6 : Nat) (x7 : Int) (x8 : Int) (x9 : Bool) (x10 : List CV) (x11 : List CV) : evFn (f26_cx R_f36 R_f37 hR_f36 hR_f37) [] k Try.f26.ntmps Try.f26.results.toList (Try.f26.body.getD .skip) [(.ptr [1000] 0 0 0), (.v (CV.int .i64 x0)), (.v (CV.int .i64 x1))] [([1000], (.obj [(.ptr [1100] 0 0 0), (.v (CV.int .i64 x2)), (.v (CV.int .i64 x3))])), ([1100], (.obj [(.osl [0, 1100] none 0 x4), (.v (CV.int .i64 x5)), (.osl [2, 1100] none 0 x6), (.v (CV.int .i64 x7)), (.v (CV.int .i64 x8)), (.v (CV.bool x9))])), ([0, 1100], (.row false none x10)), ([2, 1100], (.row false none x11))] K = f26_T R_f36 R_f37 k (fun u => K (f26_out u)) x0 x1 x2 x3 x4 x5 x6 x7 x8 x9 x10 x11 := by kernel_rfl
theorem f26_ev {X : Type} (R_f36 : f36_R) (R_f37 : f37_R) (hR_f36 : AnsOk Try.prog 36 (f36_cOf R_f36)) (hR_f37 : AnsOk Try.prog 37 (f37_cOf R_f37)) (k : Nat) (K : Out → Option X) (x0 : Int) (x1 : Int) (x2 : Int) (x3 : Int) (x4 : Nat) (x5 : Int) (x6 : Nat) (x7 : Int) (x8 : Int) (x9 : Bool) (x10 : List CV) (x11 : List CV) : evFn (f26_cx R_f36 R_f37 hR_f36 hR_f37) [] k Try.f26.ntmps Try.f26.results.toList (Try.f26.body.getD .skip) [(.ptr [1000] 0 0 0), (.v (CV.int .i64 x0)), (.v (CV.int .i64 x1))] [([1000], (.obj [(.ptr [1100] 0 0 0), (.v (CV.int .i64 x2)), (.v (CV.int .i64 x3))])), ([1100], (.obj [(.osl [0, 1100] none 0 x4), (.v (CV.int .i64 x5)), (.osl [2, 1100] none 0 x6), (.v (CV.int .i64 x7)), (.v (CV.int .i64 x8)), (.v (CV.bool x9))])), ([0, 1100], (.row false none x10)), ([2, 1100], (.row false none x11))] K = f26_A R_f36 R_f37 k X (fun u => K (f26_out u)) x0 x1 x2 x3 x4 x5 x6 x7 x8 x9 x10 x11 := (f26_ev' R_f36 R_f37 hR_f36 hR_f37 k K x0 x1 x2 x3 x4 x5 x6 x7 x8 x9 x10 x11).trans rfl
theorem f26_okA (R_f36 : f36_R) (R_f37 : f37_R) (hR_f36 : AnsOk Try.prog 36 (f36_cOf R_f36)) (hR_f37 : AnsOk Try.prog 37 (f37_cOf R_f37)) (k : Nat) : AnsOk Try.prog 26 (f26_cOf (f26_A R_f36 R_f37 k)) := by
  intro X xs ns K x h
  unfold f26_cOf at h ⊢
  split at h
  · exact ans_main S (f26_Cok R_f36 R_f37 hR_f36 hR_f37) Try.func26 (ent_of Try.func26 (by kernel_rfl) rfl) rfl (fun X K => f26_ev R_f36 R_f37 hR_f36 hR_f37 k K _ _ _ _ _ _ _ _ _ _ _ _) h
  · cases h
/-- "(*outpost/part.Part).fault" -/
def f26 {X : Type} (k : Nat) (K : Int × Int × Int × Nat × Int × Nat × Int × Int × Bool × (List CV) × (List CV) → Option X) (x0 : Int) (x1 : Int) (x2 : Int) (x3 : Int) (x4 : Nat) (x5 : Int) (x6 : Nat) (x7 : Int) (x8 : Int) (x9 : Bool) (x10 : List CV) (x11 : List CV) : Option X := f26_A (fun X => @f36 X k) (fun X => @f37 X k) k X K x0 x1 x2 x3 x4 x5 x6 x7 x8 x9 x10 x11
theorem f26_ok (k : Nat) : AnsOk Try.prog 26 (f26_cOf (fun X => @f26 X k)) := f26_okA (fun X => @f36 X k) (fun X => @f37 X k) (f36_ok k) (f37_ok k) k
abbrev f28_R : Type 1 := (X : Type) → (Int × Int × Int × Nat × Int × Nat × Int × Int × Bool × (List CV) × (List CV) → Option X) → Int → Int → Nat → Int → Nat → Int → Int → Bool → (List CV) → (List CV) → Option X
def f28_out (u : Int × Int × Int × Nat × Int × Nat × Int × Int × Bool × (List CV) × (List CV)) : Out := ⟨(.v (CV.int .i64 u.1)), [([1000], (.obj [(.ptr [1100] 0 0 0), (.v (CV.int .i64 u.2.1)), (.v (CV.int .i64 u.2.2.1))])), ([1100], (.obj [(.osl [0, 1100] none 0 u.2.2.2.1), (.v (CV.int .i64 u.2.2.2.2.1)), (.osl [2, 1100] none 0 u.2.2.2.2.2.1), (.v (CV.int .i64 u.2.2.2.2.2.2.1)), (.v (CV.int .i64 u.2.2.2.2.2.2.2.1)), (.v (CV.bool u.2.2.2.2.2.2.2.2.1))])), ([0, 1100], (.row false none u.2.2.2.2.2.2.2.2.2.1)), ([2, 1100], (.row false none u.2.2.2.2.2.2.2.2.2.2))]⟩
def f28_cOf (R : f28_R) : FnC := fun X xs ns K => match xs, ns with
  | [(.ptr [1000] 0 0 0)], [([1000], (.obj [(.ptr [1100] 0 0 0), (.v (CV.int .i64 x0)), (.v (CV.int .i64 x1))])), ([1100], (.obj [(.osl [0, 1100] none 0 x2), (.v (CV.int .i64 x3)), (.osl [2, 1100] none 0 x4), (.v (CV.int .i64 x5)), (.v (CV.int .i64 x6)), (.v (CV.bool x7))])), ([0, 1100], (.row false none x8)), ([2, 1100], (.row false none x9))] => R X (fun u => K (f28_out u)) x0 x1 x2 x3 x4 x5 x6 x7 x8 x9
  | _, _ => none
def f28_plan : Nat → Option (List Nat × List Wk)
  | 0 => some ([0], [])
  | 1 => some ([0], [])
  | _ => none
def f28_C (R_f19 : f19_R) : Fns := (orC 19 (f19_cOf R_f19) noC)
theorem f28_Cok (R_f19 : f19_R) (hR_f19 : AnsOk Try.prog 19 (f19_cOf R_f19)) : CsOk Try.prog (f28_C R_f19) := (orC_ok hR_f19 noC_ok)
def f28_cx (R_f19 : f19_R) (hR_f19 : AnsOk Try.prog 19 (f19_cOf R_f19)) : Cx := mkCx (tabOf rows) (f28_C R_f19) md (cmpIn cmps) f28_plan (f28_Cok R_f19 hR_f19)
def f28_T {X : Type} (R_f19 : f19_R) (k : Nat) (K : Int × Int × Int × Nat × Int × Nat × Int × Int × Bool × (List CV) × (List CV) → Option X)  (x0 : Int) (x1 : Int) (x2 : Nat) (x3 : Int) (x4 : Nat) (x5 : Int) (x6 : Int) (x7 : Bool) (x8 : List CV) (x9 : List CV) : Option X :=
R_f19 _ (fun u1 =>
K ((IntKind.wrap .i64 (x0 * u1.1)), x0, x1, u1.2.1, u1.2.2.1, u1.2.2.2.1, u1.2.2.2.2.1, u1.2.2.2.2.2.1, u1.2.2.2.2.2.2.1, (List.take (0 + u1.2.1) u1.2.2.2.2.2.2.2.1), (List.take (0 + u1.2.2.2.1) u1.2.2.2.2.2.2.2.2))) (x2) (x3) (x4) (x5) (x6) (x7) (x8) (x9)
/-- "(*outpost/part.Part).base" -/
def f28_A (R_f19 : f19_R) (k : Nat) : f28_R := fun X K x0 x1 x2 x3 x4 x5 x6 x7 x8 x9 => f28_T R_f19 k K  x0 x1 x2 x3 x4 x5 x6 x7 x8 x9
set_option maxRecDepth 100000 in
theorem f28_ev' {X : Type} (R_f19 : f19_R) (hR_f19 : AnsOk Try.prog 19 (f19_cOf R_f19)) (k : Nat) (K : Out → Option X) (x0 : Int) (x1 : Int) (x2 : Nat) (x3 : Int) (x4 : Nat) (x5 : Int) (x6 : Int) (x7 : Bool) (x8 : List CV) (x9 : List CV) : evFn (f28_cx R_f19 hR_f19) [] k Try.f28.ntmps Try.f28.results.toList (Try.f28.body.getD .skip) [(.ptr [1000] 0 0 0)] [([1000], (.obj [(.ptr [1100] 0 0 0), (.v (CV.int .i64 x0)), (.v (CV.int .i64 x1))])), ([1100], (.obj [(.osl [0, 1100] none 0 x2), (.v (CV.int .i64 x3)), (.osl [2, 1100] none 0 x4), (.v (CV.int .i64 x5)), (.v (CV.int .i64 x6)), (.v (CV.bool x7))])), ([0, 1100], (.row false none x8)), ([2, 1100], (.row false none x9))] K = f28_T R_f19 k (fun u => K (f28_out u)) x0 x1 x2 x3 x4 x5 x6 x7 x8 x9 := by kernel_rfl
theorem f28_ev {X : Type} (R_f19 : f19_R) (hR_f19 : AnsOk Try.prog 19 (f19_cOf R_f19)) (k : Nat) (K : Out → Option X) (x0 : Int) (x1 : Int) (x2 : Nat) (x3 : Int) (x4 : Nat) (x5 : Int) (x6 : Int) (x7 : Bool) (x8 : List CV) (x9 : List CV) : evFn (f28_cx R_f19 hR_f19) [] k Try.f28.ntmps Try.f28.results.toList (Try.f28.body.getD .skip) [(.ptr [1000] 0 0 0)] [([1000], (.obj [(.ptr [1100] 0 0 0), (.v (CV.int .i64 x0)), (.v (CV.int .i64 x1))])), ([1100], (.obj [(.osl [0, 1100] none 0 x2), (.v (CV.int .i64 x3)), (.osl [2, 1100] none 0 x4), (.v (CV.int .i64 x5)), (.v (CV.int .i64 x6)), (.v (CV.bool x7))])), ([0, 1100], (.row false none x8)), ([2, 1100], (.row false none x9))] K = f28_A R_f19 k X (fun u => K (f28_out u)) x0 x1 x2 x3 x4 x5 x6 x7 x8 x9 := (f28_ev' R_f19 hR_f19 k K x0 x1 x2 x3 x4 x5 x6 x7 x8 x9).trans rfl
theorem f28_okA (R_f19 : f19_R) (hR_f19 : AnsOk Try.prog 19 (f19_cOf R_f19)) (k : Nat) : AnsOk Try.prog 28 (f28_cOf (f28_A R_f19 k)) := by
  intro X xs ns K x h
  unfold f28_cOf at h ⊢
  split at h
  · exact ans_main S (f28_Cok R_f19 hR_f19) Try.func28 (ent_of Try.func28 (by kernel_rfl) rfl) rfl (fun X K => f28_ev R_f19 hR_f19 k K _ _ _ _ _ _ _ _ _ _) h
  · cases h
/-- "(*outpost/part.Part).base" -/
def f28 {X : Type} (k : Nat) (K : Int × Int × Int × Nat × Int × Nat × Int × Int × Bool × (List CV) × (List CV) → Option X) (x0 : Int) (x1 : Int) (x2 : Nat) (x3 : Int) (x4 : Nat) (x5 : Int) (x6 : Int) (x7 : Bool) (x8 : List CV) (x9 : List CV) : Option X := f28_A (fun X => @f19 X k) k X K x0 x1 x2 x3 x4 x5 x6 x7 x8 x9
theorem f28_ok (k : Nat) : AnsOk Try.prog 28 (f28_cOf (fun X => @f28 X k)) := f28_okA (fun X => @f19 X k) (f19_ok k) k
abbrev f32_R : Type 1 := (X : Type) → (Bool × Nat × Int × Nat × Int × Int × Bool × (List CV) × (List CV) → Option X) → Int → Int → Nat → Int → Nat → Int → Int → Bool → (List CV) → (List CV) → Option X
def f32_out (u : Bool × Nat × Int × Nat × Int × Int × Bool × (List CV) × (List CV)) : Out := ⟨(.v (CV.bool u.1)), [([1000], (.obj [(.osl [0, 1000] none 0 u.2.1), (.v (CV.int .i64 u.2.2.1)), (.osl [2, 1000] none 0 u.2.2.2.1), (.v (CV.int .i64 u.2.2.2.2.1)), (.v (CV.int .i64 u.2.2.2.2.2.1)), (.v (CV.bool u.2.2.2.2.2.2.1))])), ([0, 1000], (.row false none u.2.2.2.2.2.2.2.1)), ([2, 1000], (.row false none u.2.2.2.2.2.2.2.2))]⟩
def f32_cOf (R : f32_R) : FnC := fun X xs ns K => match xs, ns with
  | [(.ptr [1000] 0 0 0), (.v (CV.int .i64 x0)), (.v (CV.int .i64 x1))], [([1000], (.obj [(.osl [0, 1000] none 0 x2), (.v (CV.int .i64 x3)), (.osl [2, 1000] none 0 x4), (.v (CV.int .i64 x5)), (.v (CV.int .i64 x6)), (.v (CV.bool x7))])), ([0, 1000], (.row false none x8)), ([2, 1000], (.row false none x9))] => R X (fun u => K (f32_out u)) x0 x1 x2 x3 x4 x5 x6 x7 x8 x9
  | _, _ => none
def f32_plan : Nat → Option (List Nat × List Wk)
  | 0 => some ([0, 1, 2], [])
  | 1 => some ([0, 1, 2], [])
  | _ => none
def f32_C : Fns := noC
theorem f32_Cok : CsOk Try.prog (f32_C) := noC_ok
def f32_cx : Cx := mkCx (tabOf rows) (f32_C) md (cmpIn cmps) f32_plan (f32_Cok)
def f32_T {X : Type} (k : Nat) (K : Bool × Nat × Int × Nat × Int × Int × Bool × (List CV) × (List CV) → Option X)  (x0 : Int) (x1 : Int) (x2 : Nat) (x3 : Int) (x4 : Nat) (x5 : Int) (x6 : Int) (x7 : Bool) (x8 : List CV) (x9 : List CV) : Option X :=
(bif (decide (x0 ≥ 0)) then
(bif (decide (x1 ≥ 0)) then
(bif (decide (x0 ≤ (Nat.cast (x2) : Int))) then
K ((decide (x1 ≤ (IntKind.wrap .i64 ((Nat.cast (x2) : Int) - x0)))), x2, x3, x4, x5, x6, x7, (List.take (0 + x2) x8), (List.take (0 + x4) x9))
else
K (false, x2, x3, x4, x5, x6, x7, (List.take (0 + x2) x8), (List.take (0 + x4) x9)))
else
K (false, x2, x3, x4, x5, x6, x7, (List.take (0 + x2) x8), (List.take (0 + x4) x9)))
else
K (false, x2, x3, x4, x5, x6, x7, (List.take (0 + x2) x8), (List.take (0 + x4) x9)))
/-- "(*outpost/flash.Flash).within" -/
def f32_A (k : Nat) : f32_R := fun X K x0 x1 x2 x3 x4 x5 x6 x7 x8 x9 => f32_T k K  x0 x1 x2 x3 x4 x5 x6 x7 x8 x9
set_option maxRecDepth 100000 in
theorem f32_ev' {X : Type} (k : Nat) (K : Out → Option X) (x0 : Int) (x1 : Int) (x2 : Nat) (x3 : Int) (x4 : Nat) (x5 : Int) (x6 : Int) (x7 : Bool) (x8 : List CV) (x9 : List CV) : evFn (f32_cx) [] k Try.f32.ntmps Try.f32.results.toList (Try.f32.body.getD .skip) [(.ptr [1000] 0 0 0), (.v (CV.int .i64 x0)), (.v (CV.int .i64 x1))] [([1000], (.obj [(.osl [0, 1000] none 0 x2), (.v (CV.int .i64 x3)), (.osl [2, 1000] none 0 x4), (.v (CV.int .i64 x5)), (.v (CV.int .i64 x6)), (.v (CV.bool x7))])), ([0, 1000], (.row false none x8)), ([2, 1000], (.row false none x9))] K = f32_T k (fun u => K (f32_out u)) x0 x1 x2 x3 x4 x5 x6 x7 x8 x9 := by kernel_rfl
theorem f32_ev {X : Type} (k : Nat) (K : Out → Option X) (x0 : Int) (x1 : Int) (x2 : Nat) (x3 : Int) (x4 : Nat) (x5 : Int) (x6 : Int) (x7 : Bool) (x8 : List CV) (x9 : List CV) : evFn (f32_cx) [] k Try.f32.ntmps Try.f32.results.toList (Try.f32.body.getD .skip) [(.ptr [1000] 0 0 0), (.v (CV.int .i64 x0)), (.v (CV.int .i64 x1))] [([1000], (.obj [(.osl [0, 1000] none 0 x2), (.v (CV.int .i64 x3)), (.osl [2, 1000] none 0 x4), (.v (CV.int .i64 x5)), (.v (CV.int .i64 x6)), (.v (CV.bool x7))])), ([0, 1000], (.row false none x8)), ([2, 1000], (.row false none x9))] K = f32_A k X (fun u => K (f32_out u)) x0 x1 x2 x3 x4 x5 x6 x7 x8 x9 := (f32_ev' k K x0 x1 x2 x3 x4 x5 x6 x7 x8 x9).trans rfl
theorem f32_okA (k : Nat) : AnsOk Try.prog 32 (f32_cOf (f32_A k)) := by
  intro X xs ns K x h
  unfold f32_cOf at h ⊢
  split at h
  · exact ans_main S (f32_Cok) Try.func32 (ent_of Try.func32 (by kernel_rfl) rfl) rfl (fun X K => f32_ev k K _ _ _ _ _ _ _ _ _ _) h
  · cases h
/-- "(*outpost/flash.Flash).within" -/
def f32 {X : Type} (k : Nat) (K : Bool × Nat × Int × Nat × Int × Int × Bool × (List CV) × (List CV) → Option X) (x0 : Int) (x1 : Int) (x2 : Nat) (x3 : Int) (x4 : Nat) (x5 : Int) (x6 : Int) (x7 : Bool) (x8 : List CV) (x9 : List CV) : Option X := f32_A k X K x0 x1 x2 x3 x4 x5 x6 x7 x8 x9
theorem f32_ok (k : Nat) : AnsOk Try.prog 32 (f32_cOf (fun X => @f32 X k)) := f32_okA k
abbrev f38_R : Type 1 := (X : Type) → (Bool × Nat × Int × Nat × Int × Int × Bool × (List CV) × (List CV) → Option X) → Int → (List CV) → Nat → Int → Nat → Int → Int → Bool → (List CV) → (List CV) → Option X
def f38_out (u : Bool × Nat × Int × Nat × Int × Int × Bool × (List CV) × (List CV)) : Out := ⟨(.v (CV.bool u.1)), [([1000], (.obj [(.osl [0, 1000] none 0 u.2.1), (.v (CV.int .i64 u.2.2.1)), (.osl [2, 1000] none 0 u.2.2.2.1), (.v (CV.int .i64 u.2.2.2.2.1)), (.v (CV.int .i64 u.2.2.2.2.2.1)), (.v (CV.bool u.2.2.2.2.2.2.1))])), ([0, 1000], (.row false none u.2.2.2.2.2.2.2.1)), ([2, 1000], (.row false none u.2.2.2.2.2.2.2.2))]⟩
def f38_cOf (R : f38_R) : FnC := fun X xs ns K => match xs, ns with
  | [(.ptr [1000] 0 0 0), (.v (CV.int .i64 x0)), (.sl false none x1)], [([1000], (.obj [(.osl [0, 1000] none 0 x2), (.v (CV.int .i64 x3)), (.osl [2, 1000] none 0 x4), (.v (CV.int .i64 x5)), (.v (CV.int .i64 x6)), (.v (CV.bool x7))])), ([0, 1000], (.row false none x8)), ([2, 1000], (.row false none x9))] => R X (fun u => K (f38_out u)) x0 x1 x2 x3 x4 x5 x6 x7 x8 x9
  | _, _ => none
def f38_plan : Nat → Option (List Nat × List Wk)
  | 0 => some ([0, 1, 2], [])
  | 1 => some ([0, 1, 2], [])
  | 2 => some ([0, 1, 9, 10, 11], [])
  | 3 => some ([0, 1, 9, 10, 11], [])
  | 4 => some ([0, 1, 7, 8, 9, 10, 11], [])
  | 5 => some ([], [])
  | 6 => some ([0, 1, 9, 10, 11], [])
  | 7 => some ([], [])
  | _ => none
def f38_C : Fns := noC
theorem f38_Cok : CsOk Try.prog (f38_C) := noC_ok
def f38_cx : Cx := mkCx (tabOf rows) (f38_C) md (cmpIn cmps) f38_plan (f38_Cok)
def f38_S1 (v : Int × (List CV) × Int × Int × Nat × Int × Nat × Int × Int × Bool × (List CV) × (List CV)) : St := ⟨[(.ptr [1000] 0 0 0), (.v (CV.int .i64 v.1)), .undef, .undef, .undef, .undef, .undef, .undef, .undef, (.sl false none v.2.1), (.v (CV.int .i64 v.2.2.1)), (.v (CV.int .i64 v.2.2.2.1)), .undef, .undef, .undef, .undef, .undef, .undef, .undef, .undef, .undef, .undef, .undef, .undef, .undef, .undef, .undef, .undef, .undef], [([1000], (.obj [(.osl [0, 1000] none 0 v.2.2.2.2.1), (.v (CV.int .i64 v.2.2.2.2.2.1)), (.osl [2, 1000] none 0 v.2.2.2.2.2.2.1), (.v (CV.int .i64 v.2.2.2.2.2.2.2.1)), (.v (CV.int .i64 v.2.2.2.2.2.2.2.2.1)), (.v (CV.bool v.2.2.2.2.2.2.2.2.2.1))])), ([0, 1000], (.row false none v.2.2.2.2.2.2.2.2.2.2.1)), ([2, 1000], (.row false none v.2.2.2.2.2.2.2.2.2.2.2))]⟩
def f38_T1 {X : Type} (k : Nat) (K : Bool × Nat × Int × Nat × Int × Int × Bool × (List CV) × (List CV) → Option X)   (rec1 : Int × (List CV) × Int × Int × Nat × Int × Nat × Int × Int × Bool × (List CV) × (List CV) → Option X) (v4_0 : Int × (List CV) × Int × Int × Nat × Int × Nat × Int × Int × Bool × (List CV) × (List CV)) : Option X :=
(bif (decide (v4_0.2.2.2.1 < v4_0.2.2.1)) then
grd (decide (0 ≤ v4_0.2.2.2.1)) <|
Option.bind (v4_0.2.1)[(Int.toNat v4_0.2.2.2.1)]? fun e8 =>
grd (CV.isI .u8 e8) <|
grd (decide (0 ≤ (IntKind.wrap .i64 (v4_0.1 + v4_0.2.2.2.1)))) <|
grd (decide ((IntKind.wrap .i64 (v4_0.1 + v4_0.2.2.2.1)) < (Nat.cast (v4_0.2.2.2.2.1) : Int))) <|
Option.bind (v4_0.2.2.2.2.2.2.2.2.2.2.1)[(0 + (Int.toNat (IntKind.wrap .i64 (v4_0.1 + v4_0.2.2.2.1))))]? fun e9 =>
grd (CV.isI .u8 e9) <|
(bif ((bop .andNot .u8 (CV.toI e8) (CV.toI e9)) != 0) then
K (false, v4_0.2.2.2.2.1, v4_0.2.2.2.2.2.1, v4_0.2.2.2.2.2.2.1, v4_0.2.2.2.2.2.2.2.1, v4_0.2.2.2.2.2.2.2.2.1, v4_0.2.2.2.2.2.2.2.2.2.1, (List.take (0 + v4_0.2.2.2.2.1) v4_0.2.2.2.2.2.2.2.2.2.2.1), (List.take (0 + v4_0.2.2.2.2.2.2.1) v4_0.2.2.2.2.2.2.2.2.2.2.2))
else
rec1 (v4_0.1, v4_0.2.1, v4_0.2.2.1, (IntKind.wrap .i64 (v4_0.2.2.2.1 + 1)), v4_0.2.2.2.2.1, v4_0.2.2.2.2.2.1, v4_0.2.2.2.2.2.2.1, v4_0.2.2.2.2.2.2.2.1, v4_0.2.2.2.2.2.2.2.2.1, v4_0.2.2.2.2.2.2.2.2.2.1, v4_0.2.2.2.2.2.2.2.2.2.2.1, v4_0.2.2.2.2.2.2.2.2.2.2.2))
else
K (true, v4_0.2.2.2.2.1, v4_0.2.2.2.2.2.1, v4_0.2.2.2.2.2.2.1, v4_0.2.2.2.2.2.2.2.1, v4_0.2.2.2.2.2.2.2.2.1, v4_0.2.2.2.2.2.2.2.2.2.1, (List.take (0 + v4_0.2.2.2.2.1) v4_0.2.2.2.2.2.2.2.2.2.2.1), (List.take (0 + v4_0.2.2.2.2.2.2.1) v4_0.2.2.2.2.2.2.2.2.2.2.2)))
def f38_L1 {X : Type} (k : Nat) (K : Bool × Nat × Int × Nat × Int × Int × Bool × (List CV) × (List CV) → Option X)  (rec1 : Int × (List CV) × Int × Int × Nat × Int × Nat × Int × Int × Bool × (List CV) × (List CV) → Option X) (v : Int × (List CV) × Int × Int × Nat × Int × Nat × Int × Int × Bool × (List CV) × (List CV)) : Option X := f38_T1 k K   rec1 v
set_option maxRecDepth 100000 in
theorem f38_L1_ev {X : Type} (k : Nat) (K : Out → Option X)  (r1 : St → Option X) (v : Int × (List CV) × Int × Int × Nat × Int × Nat × Int × Int × Bool × (List CV) × (List CV)) : loopB (f38_cx) k [.r, .l, .r, .b] (Try.f38.body.getD .skip) (retK (f38_cx) [] Try.f38.results.toList K) [] r1 (f38_S1 v) = f38_T1 k (fun u => K (f38_out u))   (fun v => r1 (f38_S1 v)) v := by kernel_rfl
theorem f38_L1_it {X : Type} (k : Nat) (K : Out → Option X)  : (fun v => iter (loopB (f38_cx) k [.r, .l, .r, .b] (Try.f38.body.getD .skip) (retK (f38_cx) [] Try.f38.results.toList K) []) k (f38_S1 v)) = iterV (f38_L1 k (fun u => K (f38_out u)) ) k :=
  iter_map (fun r1 v => (f38_L1_ev k K  r1 v).trans rfl) k
def f38_T {X : Type} (k : Nat) (K : Bool × Nat × Int × Nat × Int × Int × Bool × (List CV) × (List CV) → Option X) (loop1 : Int × (List CV) × Int × Int × Nat × Int × Nat × Int × Int × Bool × (List CV) × (List CV) → Option X) (x0 : Int) (x1 : List CV) (x2 : Nat) (x3 : Int) (x4 : Nat) (x5 : Int) (x6 : Int) (x7 : Bool) (x8 : List CV) (x9 : List CV) : Option X :=
loop1 (x0, x1, (Nat.cast ((List.length x1)) : Int), 0, x2, x3, x4, x5, x6, x7, x8, x9)
/-- "(*outpost/flash.Flash).clears" -/
def f38_A (k : Nat) : f38_R := fun X K x0 x1 x2 x3 x4 x5 x6 x7 x8 x9 => f38_T k K (iterV (f38_L1 k K) k) x0 x1 x2 x3 x4 x5 x6 x7 x8 x9
set_option maxRecDepth 100000 in
theorem f38_ev' {X : Type} (k : Nat) (K : Out → Option X) (x0 : Int) (x1 : List CV) (x2 : Nat) (x3 : Int) (x4 : Nat) (x5 : Int) (x6 : Int) (x7 : Bool) (x8 : List CV) (x9 : List CV) : evFn (f38_cx) [] k Try.f38.ntmps Try.f38.results.toList (Try.f38.body.getD .skip) [(.ptr [1000] 0 0 0), (.v (CV.int .i64 x0)), (.sl false none x1)] [([1000], (.obj [(.osl [0, 1000] none 0 x2), (.v (CV.int .i64 x3)), (.osl [2, 1000] none 0 x4), (.v (CV.int .i64 x5)), (.v (CV.int .i64 x6)), (.v (CV.bool x7))])), ([0, 1000], (.row false none x8)), ([2, 1000], (.row false none x9))] K = f38_T k (fun u => K (f38_out u)) (fun v => iter (loopB (f38_cx) k [.r, .l, .r, .b] (Try.f38.body.getD .skip) (retK (f38_cx) [] Try.f38.results.toList K) []) k (f38_S1 v)) x0 x1 x2 x3 x4 x5 x6 x7 x8 x9 := by kernel_rfl
theorem f38_ev {X : Type} (k : Nat) (K : Out → Option X) (x0 : Int) (x1 : List CV) (x2 : Nat) (x3 : Int) (x4 : Nat) (x5 : Int) (x6 : Int) (x7 : Bool) (x8 : List CV) (x9 : List CV) : evFn (f38_cx) [] k Try.f38.ntmps Try.f38.results.toList (Try.f38.body.getD .skip) [(.ptr [1000] 0 0 0), (.v (CV.int .i64 x0)), (.sl false none x1)] [([1000], (.obj [(.osl [0, 1000] none 0 x2), (.v (CV.int .i64 x3)), (.osl [2, 1000] none 0 x4), (.v (CV.int .i64 x5)), (.v (CV.int .i64 x6)), (.v (CV.bool x7))])), ([0, 1000], (.row false none x8)), ([2, 1000], (.row false none x9))] K = f38_A k X (fun u => K (f38_out u)) x0 x1 x2 x3 x4 x5 x6 x7 x8 x9 := (f38_ev' k K x0 x1 x2 x3 x4 x5 x6 x7 x8 x9).trans (by rw [f38_L1_it k K]; rfl)
theorem f38_okA (k : Nat) : AnsOk Try.prog 38 (f38_cOf (f38_A k)) := by
  intro X xs ns K x h
  unfold f38_cOf at h ⊢
  split at h
  · exact ans_main S (f38_Cok) Try.func38 (ent_of Try.func38 (by kernel_rfl) rfl) rfl (fun X K => f38_ev k K _ _ _ _ _ _ _ _ _ _) h
  · cases h
/-- "(*outpost/flash.Flash).clears" -/
def f38 {X : Type} (k : Nat) (K : Bool × Nat × Int × Nat × Int × Int × Bool × (List CV) × (List CV) → Option X) (x0 : Int) (x1 : List CV) (x2 : Nat) (x3 : Int) (x4 : Nat) (x5 : Int) (x6 : Int) (x7 : Bool) (x8 : List CV) (x9 : List CV) : Option X := f38_A k X K x0 x1 x2 x3 x4 x5 x6 x7 x8 x9
theorem f38_ok (k : Nat) : AnsOk Try.prog 38 (f38_cOf (fun X => @f38 X k)) := f38_okA k
abbrev f39_R : Type 1 := (X : Type) → (Bool × Nat × Int × Nat × Int × Int × Bool × (List CV) × (List CV) → Option X) → Int → Int → Nat → Int → Nat → Int → Int → Bool → (List CV) → (List CV) → Option X
def f39_out (u : Bool × Nat × Int × Nat × Int × Int × Bool × (List CV) × (List CV)) : Out := ⟨(.v (CV.bool u.1)), [([1000], (.obj [(.osl [0, 1000] none 0 u.2.1), (.v (CV.int .i64 u.2.2.1)), (.osl [2, 1000] none 0 u.2.2.2.1), (.v (CV.int .i64 u.2.2.2.2.1)), (.v (CV.int .i64 u.2.2.2.2.2.1)), (.v (CV.bool u.2.2.2.2.2.2.1))])), ([0, 1000], (.row false none u.2.2.2.2.2.2.2.1)), ([2, 1000], (.row false none u.2.2.2.2.2.2.2.2))]⟩
def f39_cOf (R : f39_R) : FnC := fun X xs ns K => match xs, ns with
  | [(.ptr [1000] 0 0 0), (.v (CV.int .i64 x0)), (.v (CV.int .u8 x1))], [([1000], (.obj [(.osl [0, 1000] none 0 x2), (.v (CV.int .i64 x3)), (.osl [2, 1000] none 0 x4), (.v (CV.int .i64 x5)), (.v (CV.int .i64 x6)), (.v (CV.bool x7))])), ([0, 1000], (.row false none x8)), ([2, 1000], (.row false none x9))] => R X (fun u => K (f39_out u)) x0 x1 x2 x3 x4 x5 x6 x7 x8 x9
  | _, _ => none
def f39_plan : Nat → Option (List Nat × List Wk)
  | 0 => some ([0, 1, 2], [])
  | 1 => some ([0, 1, 2], [])
  | 2 => some ([0], [])
  | 3 => some ([], [])
  | 4 => some ([0, 1, 2], [])
  | 5 => some ([0, 1, 2], [])
  | 6 => some ([0, 1, 2], [])
  | 7 => some ([0], [])
  | 8 => some ([], [])
  | _ => none
def f39_C : Fns := noC
theorem f39_Cok : CsOk Try.prog (f39_C) := noC_ok
def f39_cx : Cx := mkCx (tabOf rows) (f39_C) md (cmpIn cmps) f39_plan (f39_Cok)
def f39_J1 {X : Type} (k : Nat) (K : Bool × Nat × Int × Nat × Int × Int × Bool × (List CV) × (List CV) → Option X) (x0 : Int) (v1 : Int × Nat × Int × Nat × Int × Int × Bool × (List CV) × (List CV)) : Option X :=
grd (decide (0 ≤ x0)) <|
grd (decide (x0 < (Nat.cast (v1.2.1) : Int))) <|
grd (decide ((0 + (Int.toNat x0)) < (List.length v1.2.2.2.2.2.2.2.1))) <|
K (true, v1.2.1, v1.2.2.1, v1.2.2.2.1, (if 1073741824 < (IntKind.wrap .i64 (v1.2.2.2.2.1 + 1)) then 1073741824 else (IntKind.wrap .i64 (v1.2.2.2.2.1 + 1))), v1.2.2.2.2.2.1, v1.2.2.2.2.2.2.1, (List.take (0 + v1.2.1) (List.set v1.2.2.2.2.2.2.2.1 (0 + (Int.toNat x0)) (CV.int .u8 v1.1))), (List.take (0 + v1.2.2.2.1) v1.2.2.2.2.2.2.2.2))
def f39_T {X : Type} (k : Nat) (K : Bool × Nat × Int × Nat × Int × Int × Bool × (List CV) × (List CV) → Option X)  (x0 : Int) (x1 : Int) (x2 : Nat) (x3 : Int) (x4 : Nat) (x5 : Int) (x6 : Int) (x7 : Bool) (x8 : List CV) (x9 : List CV) : Option X :=
(bif (x6 == 0) then
K (false, x2, x3, x4, x5, x6, true, (List.take (0 + x2) x8), (List.take (0 + x4) x9))
else
(bif (decide (x6 > 0)) then
f39_J1 k K x0 (x1, x2, x3, x4, x5, (IntKind.wrap .i64 (x6 - 1)), x7, x8, x9)
else
f39_J1 k K x0 (x1, x2, x3, x4, x5, x6, x7, x8, x9)))
/-- "(*outpost/flash.Flash).turn" -/
def f39_A (k : Nat) : f39_R := fun X K x0 x1 x2 x3 x4 x5 x6 x7 x8 x9 => f39_T k K  x0 x1 x2 x3 x4 x5 x6 x7 x8 x9
set_option maxRecDepth 100000 in
theorem f39_ev' {X : Type} (k : Nat) (K : Out → Option X) (x0 : Int) (x1 : Int) (x2 : Nat) (x3 : Int) (x4 : Nat) (x5 : Int) (x6 : Int) (x7 : Bool) (x8 : List CV) (x9 : List CV) : evFn (f39_cx) [] k Try.f39.ntmps Try.f39.results.toList (Try.f39.body.getD .skip) [(.ptr [1000] 0 0 0), (.v (CV.int .i64 x0)), (.v (CV.int .u8 x1))] [([1000], (.obj [(.osl [0, 1000] none 0 x2), (.v (CV.int .i64 x3)), (.osl [2, 1000] none 0 x4), (.v (CV.int .i64 x5)), (.v (CV.int .i64 x6)), (.v (CV.bool x7))])), ([0, 1000], (.row false none x8)), ([2, 1000], (.row false none x9))] K = f39_T k (fun u => K (f39_out u)) x0 x1 x2 x3 x4 x5 x6 x7 x8 x9 := by kernel_rfl
theorem f39_ev {X : Type} (k : Nat) (K : Out → Option X) (x0 : Int) (x1 : Int) (x2 : Nat) (x3 : Int) (x4 : Nat) (x5 : Int) (x6 : Int) (x7 : Bool) (x8 : List CV) (x9 : List CV) : evFn (f39_cx) [] k Try.f39.ntmps Try.f39.results.toList (Try.f39.body.getD .skip) [(.ptr [1000] 0 0 0), (.v (CV.int .i64 x0)), (.v (CV.int .u8 x1))] [([1000], (.obj [(.osl [0, 1000] none 0 x2), (.v (CV.int .i64 x3)), (.osl [2, 1000] none 0 x4), (.v (CV.int .i64 x5)), (.v (CV.int .i64 x6)), (.v (CV.bool x7))])), ([0, 1000], (.row false none x8)), ([2, 1000], (.row false none x9))] K = f39_A k X (fun u => K (f39_out u)) x0 x1 x2 x3 x4 x5 x6 x7 x8 x9 := (f39_ev' k K x0 x1 x2 x3 x4 x5 x6 x7 x8 x9).trans rfl
theorem f39_okA (k : Nat) : AnsOk Try.prog 39 (f39_cOf (f39_A k)) := by
  intro X xs ns K x h
  unfold f39_cOf at h ⊢
  split at h
  · exact ans_main S (f39_Cok) Try.func39 (ent_of Try.func39 (by kernel_rfl) rfl) rfl (fun X K => f39_ev k K _ _ _ _ _ _ _ _ _ _) h
  · cases h
/-- "(*outpost/flash.Flash).turn" -/
def f39 {X : Type} (k : Nat) (K : Bool × Nat × Int × Nat × Int × Int × Bool × (List CV) × (List CV) → Option X) (x0 : Int) (x1 : Int) (x2 : Nat) (x3 : Int) (x4 : Nat) (x5 : Int) (x6 : Int) (x7 : Bool) (x8 : List CV) (x9 : List CV) : Option X := f39_A k X K x0 x1 x2 x3 x4 x5 x6 x7 x8 x9
theorem f39_ok (k : Nat) : AnsOk Try.prog 39 (f39_cOf (fun X => @f39 X k)) := f39_okA k
abbrev f27_R : Type 1 := (X : Type) → (Int × Nat × Int × Nat × Int × Int × Bool × (List CV) × (List CV) → Option X) → Int → (List CV) → Nat → Int → Nat → Int → Int → Bool → (List CV) → (List CV) → Option X
def f27_out (u : Int × Nat × Int × Nat × Int × Int × Bool × (List CV) × (List CV)) : Out := ⟨(.v (CV.int .i64 u.1)), [([1000], (.obj [(.osl [0, 1000] none 0 u.2.1), (.v (CV.int .i64 u.2.2.1)), (.osl [2, 1000] none 0 u.2.2.2.1), (.v (CV.int .i64 u.2.2.2.2.1)), (.v (CV.int .i64 u.2.2.2.2.2.1)), (.v (CV.bool u.2.2.2.2.2.2.1))])), ([0, 1000], (.row false none u.2.2.2.2.2.2.2.1)), ([2, 1000], (.row false none u.2.2.2.2.2.2.2.2))]⟩
def f27_cOf (R : f27_R) : FnC := fun X xs ns K => match xs, ns with
  | [(.ptr [1000] 0 0 0), (.v (CV.int .i64 x0)), (.sl false none x1)], [([1000], (.obj [(.osl [0, 1000] none 0 x2), (.v (CV.int .i64 x3)), (.osl [2, 1000] none 0 x4), (.v (CV.int .i64 x5)), (.v (CV.int .i64 x6)), (.v (CV.bool x7))])), ([0, 1000], (.row false none x8)), ([2, 1000], (.row false none x9))] => R X (fun u => K (f27_out u)) x0 x1 x2 x3 x4 x5 x6 x7 x8 x9
  | _, _ => none
def f27_plan : Nat → Option (List Nat × List Wk)
  | 0 => some ([0, 1, 2], [])
  | 1 => some ([0, 1, 2], [])
  | 2 => some ([], [])
  | 3 => some ([0, 1, 2], [])
  | 4 => some ([], [])
  | 5 => some ([0, 1, 2], [])
  | 6 => some ([], [])
  | 7 => some ([0, 1, 2], [])
  | 8 => some ([0, 1, 27, 28, 29], [])
  | 9 => some ([0, 1, 27, 28, 29], [])
  | 10 => some ([0, 1, 7, 8, 27, 28, 29], [])
  | 11 => some ([], [])
  | 12 => some ([0, 1, 27, 28, 29], [])
  | 13 => some ([], [])
  | _ => none
def f27_C (R_f32 : f32_R) (R_f38 : f38_R) (R_f39 : f39_R) : Fns := (orC 32 (f32_cOf R_f32) (orC 38 (f38_cOf R_f38) (orC 39 (f39_cOf R_f39) noC)))
theorem f27_Cok (R_f32 : f32_R) (R_f38 : f38_R) (R_f39 : f39_R) (hR_f32 : AnsOk Try.prog 32 (f32_cOf R_f32)) (hR_f38 : AnsOk Try.prog 38 (f38_cOf R_f38)) (hR_f39 : AnsOk Try.prog 39 (f39_cOf R_f39)) : CsOk Try.prog (f27_C R_f32 R_f38 R_f39) := (orC_ok hR_f32 (orC_ok hR_f38 (orC_ok hR_f39 noC_ok)))
def f27_cx (R_f32 : f32_R) (R_f38 : f38_R) (R_f39 : f39_R) (hR_f32 : AnsOk Try.prog 32 (f32_cOf R_f32)) (hR_f38 : AnsOk Try.prog 38 (f38_cOf R_f38)) (hR_f39 : AnsOk Try.prog 39 (f39_cOf R_f39)) : Cx := mkCx (tabOf rows) (f27_C R_f32 R_f38 R_f39) md (cmpIn cmps) f27_plan (f27_Cok R_f32 R_f38 R_f39 hR_f32 hR_f38 hR_f39)
def f27_S1 (v : Int × (List CV) × Int × Int × Nat × Int × Nat × Int × Int × Bool × (List CV) × (List CV)) : St := ⟨[(.ptr [1000] 0 0 0), (.v (CV.int .i64 v.1)), .undef, .undef, .undef, .undef, .undef, .undef, .undef, .undef, .undef, .undef, .undef, .undef, .undef, .undef, .undef, .undef, .undef, .undef, .undef, .undef, .undef, .undef, .undef, .undef, .undef, (.sl false none v.2.1), (.v (CV.int .i64 v.2.2.1)), (.v (CV.int .i64 v.2.2.2.1)), .undef, .undef, .undef, .undef, .undef, .undef, .undef, .undef, .undef, .undef, .undef, .undef], [([1000], (.obj [(.osl [0, 1000] none 0 v.2.2.2.2.1), (.v (CV.int .i64 v.2.2.2.2.2.1)), (.osl [2, 1000] none 0 v.2.2.2.2.2.2.1), (.v (CV.int .i64 v.2.2.2.2.2.2.2.1)), (.v (CV.int .i64 v.2.2.2.2.2.2.2.2.1)), (.v (CV.bool v.2.2.2.2.2.2.2.2.2.1))])), ([0, 1000], (.row false none v.2.2.2.2.2.2.2.2.2.2.1)), ([2, 1000], (.row false none v.2.2.2.2.2.2.2.2.2.2.2))]⟩
def f27_T1 {X : Type} (R_f32 : f32_R) (R_f38 : f38_R) (R_f39 : f39_R) (k : Nat) (K : Int × Nat × Int × Nat × Int × Int × Bool × (List CV) × (List CV) → Option X)   (rec1 : Int × (List CV) × Int × Int × Nat × Int × Nat × Int × Int × Bool × (List CV) × (List CV) → Option X) (v5_4 : Int × (List CV) × Int × Int × Nat × Int × Nat × Int × Int × Bool × (List CV) × (List CV)) : Option X :=
(bif (decide (v5_4.2.2.2.1 < v5_4.2.2.1)) then
grd (decide (0 ≤ v5_4.2.2.2.1)) <|
Option.bind (v5_4.2.1)[(Int.toNat v5_4.2.2.2.1)]? fun e12 =>
grd (CV.isI .u8 e12) <|
R_f39 _ (fun u13 =>
(bif (!u13.1) then
K (30, u13.2.1, u13.2.2.1, u13.2.2.2.1, u13.2.2.2.2.1, u13.2.2.2.2.2.1, u13.2.2.2.2.2.2.1, (List.take (0 + u13.2.1) u13.2.2.2.2.2.2.2.1), (List.take (0 + u13.2.2.2.1) u13.2.2.2.2.2.2.2.2))
else
rec1 (v5_4.1, v5_4.2.1, v5_4.2.2.1, (IntKind.wrap .i64 (v5_4.2.2.2.1 + 1)), u13.2.1, u13.2.2.1, u13.2.2.2.1, u13.2.2.2.2.1, u13.2.2.2.2.2.1, u13.2.2.2.2.2.2.1, u13.2.2.2.2.2.2.2.1, u13.2.2.2.2.2.2.2.2))) ((IntKind.wrap .i64 (v5_4.1 + v5_4.2.2.2.1))) ((CV.toI e12)) (v5_4.2.2.2.2.1) (v5_4.2.2.2.2.2.1) (v5_4.2.2.2.2.2.2.1) (v5_4.2.2.2.2.2.2.2.1) (v5_4.2.2.2.2.2.2.2.2.1) (v5_4.2.2.2.2.2.2.2.2.2.1) (v5_4.2.2.2.2.2.2.2.2.2.2.1) (v5_4.2.2.2.2.2.2.2.2.2.2.2)
else
K (0, v5_4.2.2.2.2.1, v5_4.2.2.2.2.2.1, v5_4.2.2.2.2.2.2.1, v5_4.2.2.2.2.2.2.2.1, v5_4.2.2.2.2.2.2.2.2.1, v5_4.2.2.2.2.2.2.2.2.2.1, (List.take (0 + v5_4.2.2.2.2.1) v5_4.2.2.2.2.2.2.2.2.2.2.1), (List.take (0 + v5_4.2.2.2.2.2.2.1) v5_4.2.2.2.2.2.2.2.2.2.2.2)))
def f27_L1 {X : Type} (R_f32 : f32_R) (R_f38 : f38_R) (R_f39 : f39_R) (k : Nat) (K : Int × Nat × Int × Nat × Int × Int × Bool × (List CV) × (List CV) → Option X)  (rec1 : Int × (List CV) × Int × Int × Nat × Int × Nat × Int × Int × Bool × (List CV) × (List CV) → Option X) (v : Int × (List CV) × Int × Int × Nat × Int × Nat × Int × Int × Bool × (List CV) × (List CV)) : Option X := f27_T1 R_f32 R_f38 R_f39 k K   rec1 v
set_option maxRecDepth 100000 in
theorem f27_L1_ev {X : Type} (R_f32 : f32_R) (R_f38 : f38_R) (R_f39 : f39_R) (hR_f32 : AnsOk Try.prog 32 (f32_cOf R_f32)) (hR_f38 : AnsOk Try.prog 38 (f38_cOf R_f38)) (hR_f39 : AnsOk Try.prog 39 (f39_cOf R_f39)) (k : Nat) (K : Out → Option X)  (r1 : St → Option X) (v : Int × (List CV) × Int × Int × Nat × Int × Nat × Int × Int × Bool × (List CV) × (List CV)) : loopB (f27_cx R_f32 R_f38 R_f39 hR_f32 hR_f38 hR_f39) k [.r, .r, .l, .r, .b] (Try.f27.body.getD .skip) (retK (f27_cx R_f32 R_f38 R_f39 hR_f32 hR_f38 hR_f39) [] Try.f27.results.toList K) [] r1 (f27_S1 v) = f27_T1 R_f32 R_f38 R_f39 k (fun u => K (f27_out u))   (fun v => r1 (f27_S1 v)) v := by kernel_rfl
theorem f27_L1_it {X : Type} (R_f32 : f32_R) (R_f38 : f38_R) (R_f39 : f39_R) (hR_f32 : AnsOk Try.prog 32 (f32_cOf R_f32)) (hR_f38 : AnsOk Try.prog 38 (f38_cOf R_f38)) (hR_f39 : AnsOk Try.prog 39 (f39_cOf R_f39)) (k : Nat) (K : Out → Option X)  : (fun v => iter (loopB (f27_cx R_f32 R_f38 R_f39 hR_f32 hR_f38 hR_f39) k [.r, .r, .l, .r, .b] (Try.f27.body.getD .skip) (retK (f27_cx R_f32 R_f38 R_f39 hR_f32 hR_f38 hR_f39) [] Try.f27.results.toList K) []) k (f27_S1 v)) = iterV (f27_L1 R_f32 R_f38 R_f39 k (fun u => K (f27_out u)) ) k :=
  iter_map (fun r1 v => (f27_L1_ev R_f32 R_f38 R_f39 hR_f32 hR_f38 hR_f39 k K  r1 v).trans rfl) k
def f27_T {X : Type} (R_f32 : f32_R) (R_f38 : f38_R) (R_f39 : f39_R) (k : Nat) (K : Int × Nat × Int × Nat × Int × Int × Bool × (List CV) × (List CV) → Option X) (loop1 : Int × (List CV) × Int × Int × Nat × Int × Nat × Int × Int × Bool × (List CV) × (List CV) → Option X) (x0 : Int) (x1 : List CV) (x2 : Nat) (x3 : Int) (x4 : Nat) (x5 : Int) (x6 : Int) (x7 : Bool) (x8 : List CV) (x9 : List CV) : Option X :=
(bif x7 then
K (30, x2, x3, x4, x5, x6, x7, (List.take (0 + x2) x8), (List.take (0 + x4) x9))
else
R_f32 _ (fun u3 =>
(bif (!u3.1) then
K (1, u3.2.1, u3.2.2.1, u3.2.2.2.1, u3.2.2.2.2.1, u3.2.2.2.2.2.1, u3.2.2.2.2.2.2.1, (List.take (0 + u3.2.1) u3.2.2.2.2.2.2.2.1), (List.take (0 + u3.2.2.2.1) u3.2.2.2.2.2.2.2.2))
else
R_f38 _ (fun u4 =>
(bif (!u4.1) then
K (31, u4.2.1, u4.2.2.1, u4.2.2.2.1, u4.2.2.2.2.1, u4.2.2.2.2.2.1, u4.2.2.2.2.2.2.1, (List.take (0 + u4.2.1) u4.2.2.2.2.2.2.2.1), (List.take (0 + u4.2.2.2.1) u4.2.2.2.2.2.2.2.2))
else
loop1 (x0, x1, (Nat.cast ((List.length x1)) : Int), 0, u4.2.1, u4.2.2.1, u4.2.2.2.1, u4.2.2.2.2.1, u4.2.2.2.2.2.1, u4.2.2.2.2.2.2.1, u4.2.2.2.2.2.2.2.1, u4.2.2.2.2.2.2.2.2))) (x0) (x1) (u3.2.1) (u3.2.2.1) (u3.2.2.2.1) (u3.2.2.2.2.1) (u3.2.2.2.2.2.1) (u3.2.2.2.2.2.2.1) (u3.2.2.2.2.2.2.2.1) (u3.2.2.2.2.2.2.2.2))) (x0) ((Nat.cast ((List.length x1)) : Int)) (x2) (x3) (x4) (x5) (x6) (x7) (x8) (x9))
/-- "(*outpost/flash.Flash).Program" -/
def f27_A (R_f32 : f32_R) (R_f38 : f38_R) (R_f39 : f39_R) (k : Nat) : f27_R := fun X K x0 x1 x2 x3 x4 x5 x6 x7 x8 x9 => f27_T R_f32 R_f38 R_f39 k K (iterV (f27_L1 R_f32 R_f38 R_f39 k K) k) x0 x1 x2 x3 x4 x5 x6 x7 x8 x9
set_option maxRecDepth 100000 in
theorem f27_ev' {X : Type} (R_f32 : f32_R) (R_f38 : f38_R) (R_f39 : f39_R) (hR_f32 : AnsOk Try.prog 32 (f32_cOf R_f32)) (hR_f38 : AnsOk Try.prog 38 (f38_cOf R_f38)) (hR_f39 : AnsOk Try.prog 39 (f39_cOf R_f39)) (k : Nat) (K : Out → Option X) (x0 : Int) (x1 : List CV) (x2 : Nat) (x3 : Int) (x4 : Nat) (x5 : Int) (x6 : Int) (x7 : Bool) (x8 : List CV) (x9 : List CV) : evFn (f27_cx R_f32 R_f38 R_f39 hR_f32 hR_f38 hR_f39) [] k Try.f27.ntmps Try.f27.results.toList (Try.f27.body.getD .skip) [(.ptr [1000] 0 0 0), (.v (CV.int .i64 x0)), (.sl false none x1)] [([1000], (.obj [(.osl [0, 1000] none 0 x2), (.v (CV.int .i64 x3)), (.osl [2, 1000] none 0 x4), (.v (CV.int .i64 x5)), (.v (CV.int .i64 x6)), (.v (CV.bool x7))])), ([0, 1000], (.row false none x8)), ([2, 1000], (.row false none x9))] K = f27_T R_f32 R_f38 R_f39 k (fun u => K (f27_out u)) (fun v => iter (loopB (f27_cx R_f32 R_f38 R_f39 hR_f32 hR_f38 hR_f39) k [.r, .r, .l, .r, .b] (Try.f27.body.getD .skip) (retK (f27_cx R_f32 R_f38 R_f39 hR_f32 hR_f38 hR_f39) [] Try.f27.results.toList K) []) k (f27_S1 v)) x0 x1 x2 x3 x4 x5 x6 x7 x8 x9 := by kernel_rfl
theorem f27_ev {X : Type} (R_f32 : f32_R) (R_f38 : f38_R) (R_f39 : f39_R) (hR_f32 : AnsOk Try.prog 32 (f32_cOf R_f32)) (hR_f38 : AnsOk Try.prog 38 (f38_cOf R_f38)) (hR_f39 : AnsOk Try.prog 39 (f39_cOf R_f39)) (k : Nat) (K : Out → Option X) (x0 : Int) (x1 : List CV) (x2 : Nat) (x3 : Int) (x4 : Nat) (x5 : Int) (x6 : Int) (x7 : Bool) (x8 : List CV) (x9 : List CV) : evFn (f27_cx R_f32 R_f38 R_f39 hR_f32 hR_f38 hR_f39) [] k Try.f27.ntmps Try.f27.results.toList (Try.f27.body.getD .skip) [(.ptr [1000] 0 0 0), (.v (CV.int .i64 x0)), (.sl false none x1)] [([1000], (.obj [(.osl [0, 1000] none 0 x2), (.v (CV.int .i64 x3)), (.osl [2, 1000] none 0 x4), (.v (CV.int .i64 x5)), (.v (CV.int .i64 x6)), (.v (CV.bool x7))])), ([0, 1000], (.row false none x8)), ([2, 1000], (.row false none x9))] K = f27_A R_f32 R_f38 R_f39 k X (fun u => K (f27_out u)) x0 x1 x2 x3 x4 x5 x6 x7 x8 x9 := (f27_ev' R_f32 R_f38 R_f39 hR_f32 hR_f38 hR_f39 k K x0 x1 x2 x3 x4 x5 x6 x7 x8 x9).trans (by rw [f27_L1_it R_f32 R_f38 R_f39 hR_f32 hR_f38 hR_f39 k K]; rfl)
theorem f27_okA (R_f32 : f32_R) (R_f38 : f38_R) (R_f39 : f39_R) (hR_f32 : AnsOk Try.prog 32 (f32_cOf R_f32)) (hR_f38 : AnsOk Try.prog 38 (f38_cOf R_f38)) (hR_f39 : AnsOk Try.prog 39 (f39_cOf R_f39)) (k : Nat) : AnsOk Try.prog 27 (f27_cOf (f27_A R_f32 R_f38 R_f39 k)) := by
  intro X xs ns K x h
  unfold f27_cOf at h ⊢
  split at h
  · exact ans_main S (f27_Cok R_f32 R_f38 R_f39 hR_f32 hR_f38 hR_f39) Try.func27 (ent_of Try.func27 (by kernel_rfl) rfl) rfl (fun X K => f27_ev R_f32 R_f38 R_f39 hR_f32 hR_f38 hR_f39 k K _ _ _ _ _ _ _ _ _ _) h
  · cases h
/-- "(*outpost/flash.Flash).Program" -/
def f27 {X : Type} (k : Nat) (K : Int × Nat × Int × Nat × Int × Int × Bool × (List CV) × (List CV) → Option X) (x0 : Int) (x1 : List CV) (x2 : Nat) (x3 : Int) (x4 : Nat) (x5 : Int) (x6 : Int) (x7 : Bool) (x8 : List CV) (x9 : List CV) : Option X := f27_A (fun X => @f32 X k) (fun X => @f38 X k) (fun X => @f39 X k) k X K x0 x1 x2 x3 x4 x5 x6 x7 x8 x9
theorem f27_ok (k : Nat) : AnsOk Try.prog 27 (f27_cOf (fun X => @f27 X k)) := f27_okA (fun X => @f32 X k) (fun X => @f38 X k) (fun X => @f39 X k) (f32_ok k) (f38_ok k) (f39_ok k) k
abbrev f8_R : Type 1 := (X : Type) → (Int × Int × Int × Nat × Int × Nat × Int × Int × Bool × (List CV) × (List CV) → Option X) → Int → (List CV) → Int → Int → Nat → Int → Nat → Int → Int → Bool → (List CV) → (List CV) → Option X
def f8_out (u : Int × Int × Int × Nat × Int × Nat × Int × Int × Bool × (List CV) × (List CV)) : Out := ⟨(.v (CV.int .i64 u.1)), [([1000], (.obj [(.ptr [1100] 0 0 0), (.v (CV.int .i64 u.2.1)), (.v (CV.int .i64 u.2.2.1))])), ([1100], (.obj [(.osl [0, 1100] none 0 u.2.2.2.1), (.v (CV.int .i64 u.2.2.2.2.1)), (.osl [2, 1100] none 0 u.2.2.2.2.2.1), (.v (CV.int .i64 u.2.2.2.2.2.2.1)), (.v (CV.int .i64 u.2.2.2.2.2.2.2.1)), (.v (CV.bool u.2.2.2.2.2.2.2.2.1))])), ([0, 1100], (.row false none u.2.2.2.2.2.2.2.2.2.1)), ([2, 1100], (.row false none u.2.2.2.2.2.2.2.2.2.2))]⟩
def f8_cOf (R : f8_R) : FnC := fun X xs ns K => match xs, ns with
  | [(.ptr [1000] 0 0 0), (.v (CV.int .i64 x0)), (.sl false none x1)], [([1000], (.obj [(.ptr [1100] 0 0 0), (.v (CV.int .i64 x2)), (.v (CV.int .i64 x3))])), ([1100], (.obj [(.osl [0, 1100] none 0 x4), (.v (CV.int .i64 x5)), (.osl [2, 1100] none 0 x6), (.v (CV.int .i64 x7)), (.v (CV.int .i64 x8)), (.v (CV.bool x9))])), ([0, 1100], (.row false none x10)), ([2, 1100], (.row false none x11))] => R X (fun u => K (f8_out u)) x0 x1 x2 x3 x4 x5 x6 x7 x8 x9 x10 x11
  | _, _ => none
def f8_plan : Nat → Option (List Nat × List Wk)
  | 0 => some ([0, 1, 2], [])
  | 1 => some ([0, 1, 2], [])
  | 2 => some ([0, 1, 2, 7], [])
  | 3 => some ([7], [])
  | 4 => some ([0, 1, 2], [])
  | _ => none
def f8_C (R_f26 : f26_R) (R_f28 : f28_R) (R_f27 : f27_R) : Fns := (orC 26 (f26_cOf R_f26) (orC 27 (f27_cOf R_f27) (orC 28 (f28_cOf R_f28) noC)))
theorem f8_Cok (R_f26 : f26_R) (R_f28 : f28_R) (R_f27 : f27_R) (hR_f26 : AnsOk Try.prog 26 (f26_cOf R_f26)) (hR_f28 : AnsOk Try.prog 28 (f28_cOf R_f28)) (hR_f27 : AnsOk Try.prog 27 (f27_cOf R_f27)) : CsOk Try.prog (f8_C R_f26 R_f28 R_f27) := (orC_ok hR_f26 (orC_ok hR_f27 (orC_ok hR_f28 noC_ok)))
def f8_cx (R_f26 : f26_R) (R_f28 : f28_R) (R_f27 : f27_R) (hR_f26 : AnsOk Try.prog 26 (f26_cOf R_f26)) (hR_f28 : AnsOk Try.prog 28 (f28_cOf R_f28)) (hR_f27 : AnsOk Try.prog 27 (f27_cOf R_f27)) : Cx := mkCx (tabOf rows) (f8_C R_f26 R_f28 R_f27) md (cmpIn cmps) f8_plan (f8_Cok R_f26 R_f28 R_f27 hR_f26 hR_f28 hR_f27)
def f8_T {X : Type} (R_f26 : f26_R) (R_f28 : f28_R) (R_f27 : f27_R) (k : Nat) (K : Int × Int × Int × Nat × Int × Nat × Int × Int × Bool × (List CV) × (List CV) → Option X)  (x0 : Int) (x1 : List CV) (x2 : Int) (x3 : Int) (x4 : Nat) (x5 : Int) (x6 : Nat) (x7 : Int) (x8 : Int) (x9 : Bool) (x10 : List CV) (x11 : List CV) : Option X :=
R_f26 _ (fun u2 =>
(bif (u2.1 != 0) then
K (u2.1, u2.2.1, u2.2.2.1, u2.2.2.2.1, u2.2.2.2.2.1, u2.2.2.2.2.2.1, u2.2.2.2.2.2.2.1, u2.2.2.2.2.2.2.2.1, u2.2.2.2.2.2.2.2.2.1, (List.take (0 + u2.2.2.2.1) u2.2.2.2.2.2.2.2.2.2.1), (List.take (0 + u2.2.2.2.2.2.1) u2.2.2.2.2.2.2.2.2.2.2))
else
R_f28 _ (fun u3 =>
R_f27 _ (fun u4 =>
K (u4.1, u3.2.1, u3.2.2.1, u4.2.1, u4.2.2.1, u4.2.2.2.1, u4.2.2.2.2.1, u4.2.2.2.2.2.1, u4.2.2.2.2.2.2.1, (List.take (0 + u4.2.1) u4.2.2.2.2.2.2.2.1), (List.take (0 + u4.2.2.2.1) u4.2.2.2.2.2.2.2.2))) ((IntKind.wrap .i64 (u3.1 + x0))) (x1) (u3.2.2.2.1) (u3.2.2.2.2.1) (u3.2.2.2.2.2.1) (u3.2.2.2.2.2.2.1) (u3.2.2.2.2.2.2.2.1) (u3.2.2.2.2.2.2.2.2.1) (u3.2.2.2.2.2.2.2.2.2.1) (u3.2.2.2.2.2.2.2.2.2.2)) (u2.2.1) (u2.2.2.1) (u2.2.2.2.1) (u2.2.2.2.2.1) (u2.2.2.2.2.2.1) (u2.2.2.2.2.2.2.1) (u2.2.2.2.2.2.2.2.1) (u2.2.2.2.2.2.2.2.2.1) (u2.2.2.2.2.2.2.2.2.2.1) (u2.2.2.2.2.2.2.2.2.2.2))) (x0) ((Nat.cast ((List.length x1)) : Int)) (x2) (x3) (x4) (x5) (x6) (x7) (x8) (x9) (x10) (x11)
/-- "(*outpost/part.Part).Write" -/
def f8_A (R_f26 : f26_R) (R_f28 : f28_R) (R_f27 : f27_R) (k : Nat) : f8_R := fun X K x0 x1 x2 x3 x4 x5 x6 x7 x8 x9 x10 x11 => f8_T R_f26 R_f28 R_f27 k K  x0 x1 x2 x3 x4 x5 x6 x7 x8 x9 x10 x11
set_option maxRecDepth 100000 in
theorem f8_ev' {X : Type} (R_f26 : f26_R) (R_f28 : f28_R) (R_f27 : f27_R) (hR_f26 : AnsOk Try.prog 26 (f26_cOf R_f26)) (hR_f28 : AnsOk Try.prog 28 (f28_cOf R_f28)) (hR_f27 : AnsOk Try.prog 27 (f27_cOf R_f27)) (k : Nat) (K : Out → Option X) (x0 : Int) (x1 : List CV) (x2 : Int) (x3 : Int) (x4 : Nat) (x5 : Int) (x6 : Nat) (x7 : Int) (x8 : Int) (x9 : Bool) (x10 : List CV) (x11 : List CV) : evFn (f8_cx R_f26 R_f28 R_f27 hR_f26 hR_f28 hR_f27) [] k Try.f8.ntmps Try.f8.results.toList (Try.f8.body.getD .skip) [(.ptr [1000] 0 0 0), (.v (CV.int .i64 x0)), (.sl false none x1)] [([1000], (.obj [(.ptr [1100] 0 0 0), (.v (CV.int .i64 x2)), (.v (CV.int .i64 x3))])), ([1100], (.obj [(.osl [0, 1100] none 0 x4), (.v (CV.int .i64 x5)), (.osl [2, 1100] none 0 x6), (.v (CV.int .i64 x7)), (.v (CV.int .i64 x8)), (.v (CV.bool x9))])), ([0, 1100], (.row false none x10)), ([2, 1100], (.row false none x11))] K = f8_T R_f26 R_f28 R_f27 k (fun u => K (f8_out u)) x0 x1 x2 x3 x4 x5 x6 x7 x8 x9 x10 x11 := by kernel_rfl
theorem f8_ev {X : Type} (R_f26 : f26_R) (R_f28 : f28_R) (R_f27 : f27_R) (hR_f26 : AnsOk Try.prog 26 (f26_cOf R_f26)) (hR_f28 : AnsOk Try.prog 28 (f28_cOf R_f28)) (hR_f27 : AnsOk Try.prog 27 (f27_cOf R_f27)) (k : Nat) (K : Out → Option X) (x0 : Int) (x1 : List CV) (x2 : Int) (x3 : Int) (x4 : Nat) (x5 : Int) (x6 : Nat) (x7 : Int) (x8 : Int) (x9 : Bool) (x10 : List CV) (x11 : List CV) : evFn (f8_cx R_f26 R_f28 R_f27 hR_f26 hR_f28 hR_f27) [] k Try.f8.ntmps Try.f8.results.toList (Try.f8.body.getD .skip) [(.ptr [1000] 0 0 0), (.v (CV.int .i64 x0)), (.sl false none x1)] [([1000], (.obj [(.ptr [1100] 0 0 0), (.v (CV.int .i64 x2)), (.v (CV.int .i64 x3))])), ([1100], (.obj [(.osl [0, 1100] none 0 x4), (.v (CV.int .i64 x5)), (.osl [2, 1100] none 0 x6), (.v (CV.int .i64 x7)), (.v (CV.int .i64 x8)), (.v (CV.bool x9))])), ([0, 1100], (.row false none x10)), ([2, 1100], (.row false none x11))] K = f8_A R_f26 R_f28 R_f27 k X (fun u => K (f8_out u)) x0 x1 x2 x3 x4 x5 x6 x7 x8 x9 x10 x11 := (f8_ev' R_f26 R_f28 R_f27 hR_f26 hR_f28 hR_f27 k K x0 x1 x2 x3 x4 x5 x6 x7 x8 x9 x10 x11).trans rfl
theorem f8_okA (R_f26 : f26_R) (R_f28 : f28_R) (R_f27 : f27_R) (hR_f26 : AnsOk Try.prog 26 (f26_cOf R_f26)) (hR_f28 : AnsOk Try.prog 28 (f28_cOf R_f28)) (hR_f27 : AnsOk Try.prog 27 (f27_cOf R_f27)) (k : Nat) : AnsOk Try.prog 8 (f8_cOf (f8_A R_f26 R_f28 R_f27 k)) := by
  intro X xs ns K x h
  unfold f8_cOf at h ⊢
  split at h
  · exact ans_main S (f8_Cok R_f26 R_f28 R_f27 hR_f26 hR_f28 hR_f27) Try.func8 (ent_of Try.func8 (by kernel_rfl) rfl) rfl (fun X K => f8_ev R_f26 R_f28 R_f27 hR_f26 hR_f28 hR_f27 k K _ _ _ _ _ _ _ _ _ _ _ _) h
  · cases h
/-- "(*outpost/part.Part).Write" -/
def f8 {X : Type} (k : Nat) (K : Int × Int × Int × Nat × Int × Nat × Int × Int × Bool × (List CV) × (List CV) → Option X) (x0 : Int) (x1 : List CV) (x2 : Int) (x3 : Int) (x4 : Nat) (x5 : Int) (x6 : Nat) (x7 : Int) (x8 : Int) (x9 : Bool) (x10 : List CV) (x11 : List CV) : Option X := f8_A (fun X => @f26 X k) (fun X => @f28 X k) (fun X => @f27 X k) k X K x0 x1 x2 x3 x4 x5 x6 x7 x8 x9 x10 x11
theorem f8_ok (k : Nat) : AnsOk Try.prog 8 (f8_cOf (fun X => @f8 X k)) := f8_okA (fun X => @f26 X k) (fun X => @f28 X k) (fun X => @f27 X k) (f26_ok k) (f28_ok k) (f27_ok k) k
def f31_plan : Nat → Option (List Nat × List Wk)
  | 0 => some ([0], [])
  | 1 => some ([0], [])
  | 2 => some ([], [])
  | 3 => some ([0], [])
  | _ => none
def f31_cx : Cx := mkCx (tabOf rows) noC md (cmpIn cmps) f31_plan (noC_ok (P := Try.prog))
/-- "slices.Clone[[]byte,byte]" -/
def f31 {X : Type} (k : Nat) (K : List CV → Option X) (x0 : List CV) : Option X := grd (decide ((0 + List.length x0) * 1 ≤ 140737488355328)) (K x0)
def f31_out (u : List CV) : Out := ⟨.osl [2000] none 0 (List.length u), [([2000], .row false none u)]⟩
set_option maxRecDepth 100000 in
theorem f31_fn (x0 : List CV) (hl : (decide ((0 + List.length x0) * 1 ≤ 140737488355328)) = true) : FnOk Try.prog 31 [.sl false none x0] [] (f31_out x0) := by
  refine nilsplit (cx := f31_cx) (xs := x0) (p := false) (sh := none) (fuel := 1) (ws := [⟨0, [], some [2000]⟩]) (tabOf_tabOk S.hr) (tabOf_noOther S.hr) (CsOk.fns (noC_ok (P := Try.prog)) (cmpsAre_ok cmps_ok)) S.hm Try.func31 rfl rfl Try.underlying22 (s1 := ⟨[(.sl false none x0), .undef, (.nil0 none), .undef, .undef, .undef, .undef, .undef], []⟩) (s2 := ⟨[(.sl false none x0), .undef, .undef, .undef, .undef, .undef, .undef, .undef], []⟩) (s3 := ⟨[(.sl false none x0), .undef, .undef, (.sl false none x0), .undef, .undef, .undef, .undef], []⟩) ?_ ?_ ?_ rfl ?_ (fun h => ?_) ⟨rfl, rfl⟩
  · kernel_rfl
  · kernel_rfl
  · kernel_rfl
  · refine Eq.trans (b := grd (decide ((0 + List.length x0) * 1 ≤ 140737488355328)) (some ⟨.osl [2000] none 0 (0 + List.length x0), [([2000], .row false none (List.take (0 + (0 + List.length x0)) (List.take 0 [] ++ x0)))]⟩)) (by kernel_rfl) ?_
    rw [hl]
    simp [grd, f31_out]
  · subst h
    kernel_rfl
abbrev f31_R : Type 1 := (X : Type) → (List CV → Option X) → List CV → Option X
def f31_cOf (R : f31_R) : FnC := fun X xs ns K => match xs, ns with
  | [.sl false none x0], [] => R X (fun u => K (f31_out u)) x0
  | _, _ => none
theorem f31_ok (k : Nat) : AnsOk Try.prog 31 (f31_cOf (fun X => @f31 X k)) := by
  intro X xs ns K x h
  unfold f31_cOf at h ⊢
  split at h
  · next x0 =>
    obtain ⟨h1, h2⟩ := grd_some (show grd (decide ((0 + List.length x0) * 1 ≤ 140737488355328)) (K (f31_out x0)) = some x from h)
    exact ⟨trivial, _, (f31_fn x0 h1).toX (ent_of Try.func31 (by kernel_rfl) rfl), h2, fun Y K' => by show grd _ _ = _; rw [h1]; rfl⟩
  · cases h
abbrev f20_R : Type 1 := (X : Type) → (Nat × Int × Nat × Int × Nat × Int × Int × Bool × (List CV) × (List CV) × (List CV) → Option X) → Int → Int → Nat → Int → Nat → Int → Int → Bool → (List CV) → (List CV) → Option X
def f20_out (u : Nat × Int × Nat × Int × Nat × Int × Int × Bool × (List CV) × (List CV) × (List CV)) : Out := ⟨(.tup [(.osl [0, 2000] none 0 u.1), (.v (CV.int .i64 u.2.1))]), [([1000], (.obj [(.osl [0, 1000] none 0 u.2.2.1), (.v (CV.int .i64 u.2.2.2.1)), (.osl [2, 1000] none 0 u.2.2.2.2.1), (.v (CV.int .i64 u.2.2.2.2.2.1)), (.v (CV.int .i64 u.2.2.2.2.2.2.1)), (.v (CV.bool u.2.2.2.2.2.2.2.1))])), ([0, 1000], (.row false none u.2.2.2.2.2.2.2.2.1)), ([2, 1000], (.row false none u.2.2.2.2.2.2.2.2.2.1)), ([0, 2000], (.row false none u.2.2.2.2.2.2.2.2.2.2))]⟩
def f20_cOf (R : f20_R) : FnC := fun X xs ns K => match xs, ns with
  | [(.ptr [1000] 0 0 0), (.v (CV.int .i64 x0)), (.v (CV.int .i64 x1))], [([1000], (.obj [(.osl [0, 1000] none 0 x2), (.v (CV.int .i64 x3)), (.osl [2, 1000] none 0 x4), (.v (CV.int .i64 x5)), (.v (CV.int .i64 x6)), (.v (CV.bool x7))])), ([0, 1000], (.row false none x8)), ([2, 1000], (.row false none x9))] => R X (fun u => K (f20_out u)) x0 x1 x2 x3 x4 x5 x6 x7 x8 x9
  | _, _ => none
def f20_plan : Nat → Option (List Nat × List Wk)
  | 0 => some ([0, 1, 2], [])
  | 1 => some ([0, 1, 2], [])
  | 2 => some ([], [])
  | 3 => some ([0, 1, 2], [])
  | 4 => some ([], [])
  | 5 => some ([0, 1, 2], [])
  | _ => none
def f20_C (R_f32 : f32_R) (R_f31 : f31_R) : Fns := (orC 31 (f31_cOf R_f31) (orC 32 (f32_cOf R_f32) noC))
theorem f20_Cok (R_f32 : f32_R) (R_f31 : f31_R) (hR_f32 : AnsOk Try.prog 32 (f32_cOf R_f32)) (hR_f31 : AnsOk Try.prog 31 (f31_cOf R_f31)) : CsOk Try.prog (f20_C R_f32 R_f31) := (orC_ok hR_f31 (orC_ok hR_f32 noC_ok))
def f20_cx (R_f32 : f32_R) (R_f31 : f31_R) (hR_f32 : AnsOk Try.prog 32 (f32_cOf R_f32)) (hR_f31 : AnsOk Try.prog 31 (f31_cOf R_f31)) : Cx := mkCx (tabOf rows) (f20_C R_f32 R_f31) md (cmpIn cmps) f20_plan (f20_Cok R_f32 R_f31 hR_f32 hR_f31)
def f20_T {X : Type} (R_f32 : f32_R) (R_f31 : f31_R) (k : Nat) (K : Nat × Int × Nat × Int × Nat × Int × Int × Bool × (List CV) × (List CV) × (List CV) → Option X)  (x0 : Int) (x1 : Int) (x2 : Nat) (x3 : Int) (x4 : Nat) (x5 : Int) (x6 : Int) (x7 : Bool) (x8 : List CV) (x9 : List CV) : Option X :=
(bif x7 then
K (0, 30, x2, x3, x4, x5, x6, x7, (List.take (0 + x2) x8), (List.take (0 + x4) x9), (List.take 0 []))
else
R_f32 _ (fun u2 =>
(bif (!u2.1) then
K (0, 1, u2.2.1, u2.2.2.1, u2.2.2.2.1, u2.2.2.2.2.1, u2.2.2.2.2.2.1, u2.2.2.2.2.2.2.1, (List.take (0 + u2.2.1) u2.2.2.2.2.2.2.2.1), (List.take (0 + u2.2.2.2.1) u2.2.2.2.2.2.2.2.2), (List.take 0 []))
else
grd (decide (0 ≤ x0)) <|
grd (decide (x0 ≤ (IntKind.wrap .i64 (x0 + x1)))) <|
grd (decide ((IntKind.wrap .i64 (x0 + x1)) ≤ ((Nat.cast ((List.length u2.2.2.2.2.2.2.2.1)) : Int) - 0))) <|
R_f31 _ (fun u3 =>
K ((List.length u3), 0, u2.2.1, u2.2.2.1, u2.2.2.2.1, u2.2.2.2.2.1, u2.2.2.2.2.2.1, u2.2.2.2.2.2.2.1, (List.take (0 + u2.2.1) u2.2.2.2.2.2.2.2.1), (List.take (0 + u2.2.2.2.1) u2.2.2.2.2.2.2.2.2), (List.take (0 + (List.length u3)) u3))) ((List.take ((Int.toNat (IntKind.wrap .i64 (x0 + x1))) - (Int.toNat x0)) (List.drop (0 + (Int.toNat x0)) u2.2.2.2.2.2.2.2.1))))) (x0) (x1) (x2) (x3) (x4) (x5) (x6) (x7) (x8) (x9))
/-- "(*outpost/flash.Flash).Read" -/
def f20_A (R_f32 : f32_R) (R_f31 : f31_R) (k : Nat) : f20_R := fun X K x0 x1 x2 x3 x4 x5 x6 x7 x8 x9 => f20_T R_f32 R_f31 k K  x0 x1 x2 x3 x4 x5 x6 x7 x8 x9
set_option maxRecDepth 100000 in
theorem f20_ev' {X : Type} (R_f32 : f32_R) (R_f31 : f31_R) (hR_f32 : AnsOk Try.prog 32 (f32_cOf R_f32)) (hR_f31 : AnsOk Try.prog 31 (f31_cOf R_f31)) (k : Nat) (K : Out → Option X) (x0 : Int) (x1 : Int) (x2 : Nat) (x3 : Int) (x4 : Nat) (x5 : Int) (x6 : Int) (x7 : Bool) (x8 : List CV) (x9 : List CV) : evFn (f20_cx R_f32 R_f31 hR_f32 hR_f31) [⟨0, [0], some [0, 2000]⟩] k Try.f20.ntmps Try.f20.results.toList (Try.f20.body.getD .skip) [(.ptr [1000] 0 0 0), (.v (CV.int .i64 x0)), (.v (CV.int .i64 x1))] [([1000], (.obj [(.osl [0, 1000] none 0 x2), (.v (CV.int .i64 x3)), (.osl [2, 1000] none 0 x4), (.v (CV.int .i64 x5)), (.v (CV.int .i64 x6)), (.v (CV.bool x7))])), ([0, 1000], (.row false none x8)), ([2, 1000], (.row false none x9))] K = f20_T R_f32 R_f31 k (fun u => K (f20_out u)) x0 x1 x2 x3 x4 x5 x6 x7 x8 x9 := by kernel_rfl
theorem f20_ev {X : Type} (R_f32 : f32_R) (R_f31 : f31_R) (hR_f32 : AnsOk Try.prog 32 (f32_cOf R_f32)) (hR_f31 : AnsOk Try.prog 31 (f31_cOf R_f31)) (k : Nat) (K : Out → Option X) (x0 : Int) (x1 : Int) (x2 : Nat) (x3 : Int) (x4 : Nat) (x5 : Int) (x6 : Int) (x7 : Bool) (x8 : List CV) (x9 : List CV) : evFn (f20_cx R_f32 R_f31 hR_f32 hR_f31) [⟨0, [0], some [0, 2000]⟩] k Try.f20.ntmps Try.f20.results.toList (Try.f20.body.getD .skip) [(.ptr [1000] 0 0 0), (.v (CV.int .i64 x0)), (.v (CV.int .i64 x1))] [([1000], (.obj [(.osl [0, 1000] none 0 x2), (.v (CV.int .i64 x3)), (.osl [2, 1000] none 0 x4), (.v (CV.int .i64 x5)), (.v (CV.int .i64 x6)), (.v (CV.bool x7))])), ([0, 1000], (.row false none x8)), ([2, 1000], (.row false none x9))] K = f20_A R_f32 R_f31 k X (fun u => K (f20_out u)) x0 x1 x2 x3 x4 x5 x6 x7 x8 x9 := (f20_ev' R_f32 R_f31 hR_f32 hR_f31 k K x0 x1 x2 x3 x4 x5 x6 x7 x8 x9).trans rfl
theorem f20_okA (R_f32 : f32_R) (R_f31 : f31_R) (hR_f32 : AnsOk Try.prog 32 (f32_cOf R_f32)) (hR_f31 : AnsOk Try.prog 31 (f31_cOf R_f31)) (k : Nat) : AnsOk Try.prog 20 (f20_cOf (f20_A R_f32 R_f31 k)) := by
  intro X xs ns K x h
  unfold f20_cOf at h ⊢
  split at h
  · exact ans_main S (f20_Cok R_f32 R_f31 hR_f32 hR_f31) Try.func20 (ent_of Try.func20 (by kernel_rfl) rfl) rfl (fun X K => f20_ev R_f32 R_f31 hR_f32 hR_f31 k K _ _ _ _ _ _ _ _ _ _) h
  · cases h
/-- "(*outpost/flash.Flash).Read" -/
def f20 {X : Type} (k : Nat) (K : Nat × Int × Nat × Int × Nat × Int × Int × Bool × (List CV) × (List CV) × (List CV) → Option X) (x0 : Int) (x1 : Int) (x2 : Nat) (x3 : Int) (x4 : Nat) (x5 : Int) (x6 : Int) (x7 : Bool) (x8 : List CV) (x9 : List CV) : Option X := f20_A (fun X => @f32 X k) (fun X => @f31 X k) k X K x0 x1 x2 x3 x4 x5 x6 x7 x8 x9
theorem f20_ok (k : Nat) : AnsOk Try.prog 20 (f20_cOf (fun X => @f20 X k)) := f20_okA (fun X => @f32 X k) (fun X => @f31 X k) (f32_ok k) (f31_ok k) k
abbrev f10_R : Type 1 := (X : Type) → (Nat × Int × Int × Int × Nat × Int × Nat × Int × Int × Bool × (List CV) × (List CV) × (List CV) → Option X) → Int → Int → Int → Int → Nat → Int → Nat → Int → Int → Bool → (List CV) → (List CV) → Option X
def f10_out (u : Nat × Int × Int × Int × Nat × Int × Nat × Int × Int × Bool × (List CV) × (List CV) × (List CV)) : Out := ⟨(.tup [(.osl [0, 2000] none 0 u.1), (.v (CV.int .i64 u.2.1))]), [([1000], (.obj [(.ptr [1100] 0 0 0), (.v (CV.int .i64 u.2.2.1)), (.v (CV.int .i64 u.2.2.2.1))])), ([1100], (.obj [(.osl [0, 1100] none 0 u.2.2.2.2.1), (.v (CV.int .i64 u.2.2.2.2.2.1)), (.osl [2, 1100] none 0 u.2.2.2.2.2.2.1), (.v (CV.int .i64 u.2.2.2.2.2.2.2.1)), (.v (CV.int .i64 u.2.2.2.2.2.2.2.2.1)), (.v (CV.bool u.2.2.2.2.2.2.2.2.2.1))])), ([0, 1100], (.row false none u.2.2.2.2.2.2.2.2.2.2.1)), ([2, 1100], (.row false none u.2.2.2.2.2.2.2.2.2.2.2.1)), ([0, 2000], (.row false none u.2.2.2.2.2.2.2.2.2.2.2.2))]⟩
def f10_cOf (R : f10_R) : FnC := fun X xs ns K => match xs, ns with
  | [(.ptr [1000] 0 0 0), (.v (CV.int .i64 x0)), (.v (CV.int .i64 x1))], [([1000], (.obj [(.ptr [1100] 0 0 0), (.v (CV.int .i64 x2)), (.v (CV.int .i64 x3))])), ([1100], (.obj [(.osl [0, 1100] none 0 x4), (.v (CV.int .i64 x5)), (.osl [2, 1100] none 0 x6), (.v (CV.int .i64 x7)), (.v (CV.int .i64 x8)), (.v (CV.bool x9))])), ([0, 1100], (.row false none x10)), ([2, 1100], (.row false none x11))] => R X (fun u => K (f10_out u)) x0 x1 x2 x3 x4 x5 x6 x7 x8 x9 x10 x11
  | _, _ => none
def f10_plan : Nat → Option (List Nat × List Wk)
  | 0 => some ([0, 1, 2], [])
  | 1 => some ([0, 1, 2], [])
  | 2 => some ([0, 1, 2, 8], [])
  | 3 => some ([8], [])
  | 4 => some ([0, 1, 2], [])
  | _ => none
def f10_C (R_f26 : f26_R) (R_f28 : f28_R) (R_f20 : f20_R) : Fns := (orC 20 (f20_cOf R_f20) (orC 26 (f26_cOf R_f26) (orC 28 (f28_cOf R_f28) noC)))
theorem f10_Cok (R_f26 : f26_R) (R_f28 : f28_R) (R_f20 : f20_R) (hR_f26 : AnsOk Try.prog 26 (f26_cOf R_f26)) (hR_f28 : AnsOk Try.prog 28 (f28_cOf R_f28)) (hR_f20 : AnsOk Try.prog 20 (f20_cOf R_f20)) : CsOk Try.prog (f10_C R_f26 R_f28 R_f20) := (orC_ok hR_f20 (orC_ok hR_f26 (orC_ok hR_f28 noC_ok)))
def f10_cx (R_f26 : f26_R) (R_f28 : f28_R) (R_f20 : f20_R) (hR_f26 : AnsOk Try.prog 26 (f26_cOf R_f26)) (hR_f28 : AnsOk Try.prog 28 (f28_cOf R_f28)) (hR_f20 : AnsOk Try.prog 20 (f20_cOf R_f20)) : Cx := mkCx (tabOf rows) (f10_C R_f26 R_f28 R_f20) md (cmpIn cmps) f10_plan (f10_Cok R_f26 R_f28 R_f20 hR_f26 hR_f28 hR_f20)
def f10_T {X : Type} (R_f26 : f26_R) (R_f28 : f28_R) (R_f20 : f20_R) (k : Nat) (K : Nat × Int × Int × Int × Nat × Int × Nat × Int × Int × Bool × (List CV) × (List CV) × (List CV) → Option X)  (x0 : Int) (x1 : Int) (x2 : Int) (x3 : Int) (x4 : Nat) (x5 : Int) (x6 : Nat) (x7 : Int) (x8 : Int) (x9 : Bool) (x10 : List CV) (x11 : List CV) : Option X :=
R_f26 _ (fun u2 =>
(bif (u2.1 != 0) then
K (0, u2.1, u2.2.1, u2.2.2.1, u2.2.2.2.1, u2.2.2.2.2.1, u2.2.2.2.2.2.1, u2.2.2.2.2.2.2.1, u2.2.2.2.2.2.2.2.1, u2.2.2.2.2.2.2.2.2.1, (List.take (0 + u2.2.2.2.1) u2.2.2.2.2.2.2.2.2.2.1), (List.take (0 + u2.2.2.2.2.2.1) u2.2.2.2.2.2.2.2.2.2.2), (List.take 0 []))
else
R_f28 _ (fun u3 =>
R_f20 _ (fun u4 =>
K (u4.1, u4.2.1, u3.2.1, u3.2.2.1, u4.2.2.1, u4.2.2.2.1, u4.2.2.2.2.1, u4.2.2.2.2.2.1, u4.2.2.2.2.2.2.1, u4.2.2.2.2.2.2.2.1, (List.take (0 + u4.2.2.1) u4.2.2.2.2.2.2.2.2.1), (List.take (0 + u4.2.2.2.2.1) u4.2.2.2.2.2.2.2.2.2.1), (List.take (0 + u4.1) u4.2.2.2.2.2.2.2.2.2.2))) ((IntKind.wrap .i64 (u3.1 + x0))) (x1) (u3.2.2.2.1) (u3.2.2.2.2.1) (u3.2.2.2.2.2.1) (u3.2.2.2.2.2.2.1) (u3.2.2.2.2.2.2.2.1) (u3.2.2.2.2.2.2.2.2.1) (u3.2.2.2.2.2.2.2.2.2.1) (u3.2.2.2.2.2.2.2.2.2.2)) (u2.2.1) (u2.2.2.1) (u2.2.2.2.1) (u2.2.2.2.2.1) (u2.2.2.2.2.2.1) (u2.2.2.2.2.2.2.1) (u2.2.2.2.2.2.2.2.1) (u2.2.2.2.2.2.2.2.2.1) (u2.2.2.2.2.2.2.2.2.2.1) (u2.2.2.2.2.2.2.2.2.2.2))) (x0) (x1) (x2) (x3) (x4) (x5) (x6) (x7) (x8) (x9) (x10) (x11)
/-- "(*outpost/part.Part).Read" -/
def f10_A (R_f26 : f26_R) (R_f28 : f28_R) (R_f20 : f20_R) (k : Nat) : f10_R := fun X K x0 x1 x2 x3 x4 x5 x6 x7 x8 x9 x10 x11 => f10_T R_f26 R_f28 R_f20 k K  x0 x1 x2 x3 x4 x5 x6 x7 x8 x9 x10 x11
set_option maxRecDepth 100000 in
theorem f10_ev' {X : Type} (R_f26 : f26_R) (R_f28 : f28_R) (R_f20 : f20_R) (hR_f26 : AnsOk Try.prog 26 (f26_cOf R_f26)) (hR_f28 : AnsOk Try.prog 28 (f28_cOf R_f28)) (hR_f20 : AnsOk Try.prog 20 (f20_cOf R_f20)) (k : Nat) (K : Out → Option X) (x0 : Int) (x1 : Int) (x2 : Int) (x3 : Int) (x4 : Nat) (x5 : Int) (x6 : Nat) (x7 : Int) (x8 : Int) (x9 : Bool) (x10 : List CV) (x11 : List CV) : evFn (f10_cx R_f26 R_f28 R_f20 hR_f26 hR_f28 hR_f20) [⟨0, [0], some [0, 2000]⟩] k Try.f10.ntmps Try.f10.results.toList (Try.f10.body.getD .skip) [(.ptr [1000] 0 0 0), (.v (CV.int .i64 x0)), (.v (CV.int .i64 x1))] [([1000], (.obj [(.ptr [1100] 0 0 0), (.v (CV.int .i64 x2)), (.v (CV.int .i64 x3))])), ([1100], (.obj [(.osl [0, 1100] none 0 x4), (.v (CV.int .i64 x5)), (.osl [2, 1100] none 0 x6), (.v (CV.int .i64 x7)), (.v (CV.int .i64 x8)), (.v (CV.bool x9))])), ([0, 1100], (.row false none x10)), ([2, 1100], (.row false none x11))] K = f10_T R_f26 R_f28 R_f20 k (fun u => K (f10_out u)) x0 x1 x2 x3 x4 x5 x6 x7 x8 x9 x10 x11 := by kernel_rfl
theorem f10_ev {X : Type} (R_f26 : f26_R) (R_f28 : f28_R) (R_f20 : f20_R) (hR_f26 : AnsOk Try.prog 26 (f26_cOf R_f26)) (hR_f28 : AnsOk Try.prog 28 (f28_cOf R_f28)) (hR_f20 : AnsOk Try.prog 20 (f20_cOf R_f20)) (k : Nat) (K : Out → Option X) (x0 : Int) (x1 : Int) (x2 : Int) (x3 : Int) (x4 : Nat) (x5 : Int) (x6 : Nat) (x7 : Int) (x8 : Int) (x9 : Bool) (x10 : List CV) (x11 : List CV) : evFn (f10_cx R_f26 R_f28 R_f20 hR_f26 hR_f28 hR_f20) [⟨0, [0], some [0, 2000]⟩] k Try.f10.ntmps Try.f10.results.toList (Try.f10.body.getD .skip) [(.ptr [1000] 0 0 0), (.v (CV.int .i64 x0)), (.v (CV.int .i64 x1))] [([1000], (.obj [(.ptr [1100] 0 0 0), (.v (CV.int .i64 x2)), (.v (CV.int .i64 x3))])), ([1100], (.obj [(.osl [0, 1100] none 0 x4), (.v (CV.int .i64 x5)), (.osl [2, 1100] none 0 x6), (.v (CV.int .i64 x7)), (.v (CV.int .i64 x8)), (.v (CV.bool x9))])), ([0, 1100], (.row false none x10)), ([2, 1100], (.row false none x11))] K = f10_A R_f26 R_f28 R_f20 k X (fun u => K (f10_out u)) x0 x1 x2 x3 x4 x5 x6 x7 x8 x9 x10 x11 := (f10_ev' R_f26 R_f28 R_f20 hR_f26 hR_f28 hR_f20 k K x0 x1 x2 x3 x4 x5 x6 x7 x8 x9 x10 x11).trans rfl
theorem f10_okA (R_f26 : f26_R) (R_f28 : f28_R) (R_f20 : f20_R) (hR_f26 : AnsOk Try.prog 26 (f26_cOf R_f26)) (hR_f28 : AnsOk Try.prog 28 (f28_cOf R_f28)) (hR_f20 : AnsOk Try.prog 20 (f20_cOf R_f20)) (k : Nat) : AnsOk Try.prog 10 (f10_cOf (f10_A R_f26 R_f28 R_f20 k)) := by
  intro X xs ns K x h
  unfold f10_cOf at h ⊢
  split at h
  · exact ans_main S (f10_Cok R_f26 R_f28 R_f20 hR_f26 hR_f28 hR_f20) Try.func10 (ent_of Try.func10 (by kernel_rfl) rfl) rfl (fun X K => f10_ev R_f26 R_f28 R_f20 hR_f26 hR_f28 hR_f20 k K _ _ _ _ _ _ _ _ _ _ _ _) h
  · cases h
/-- "(*outpost/part.Part).Read" -/
def f10 {X : Type} (k : Nat) (K : Nat × Int × Int × Int × Nat × Int × Nat × Int × Int × Bool × (List CV) × (List CV) × (List CV) → Option X) (x0 : Int) (x1 : Int) (x2 : Int) (x3 : Int) (x4 : Nat) (x5 : Int) (x6 : Nat) (x7 : Int) (x8 : Int) (x9 : Bool) (x10 : List CV) (x11 : List CV) : Option X := f10_A (fun X => @f26 X k) (fun X => @f28 X k) (fun X => @f20 X k) k X K x0 x1 x2 x3 x4 x5 x6 x7 x8 x9 x10 x11
theorem f10_ok (k : Nat) : AnsOk Try.prog 10 (f10_cOf (fun X => @f10 X k)) := f10_okA (fun X => @f26 X k) (fun X => @f28 X k) (fun X => @f20 X k) (f26_ok k) (f28_ok k) (f20_ok k) k
abbrev f30_R : Type 1 := (X : Type) → (Int → Option X) → (List CV) → Option X
def f30_out (u : Int) : Out := ⟨(.v (CV.int .i64 u)), []⟩
def f30_cOf (R : f30_R) : FnC := fun X xs ns K => match xs, ns with
  | [(.sl false none x0)], [] => R X (fun u => K (f30_out u)) x0
  | _, _ => none
def f30_plan : Nat → Option (List Nat × List Wk)
  | 0 => some ([0], [])
  | 1 => some ([0], [])
  | 2 => some ([0, 3], [])
  | 3 => some ([0, 3], [])
  | 4 => some ([3], [])
  | _ => none
def f30_C : Fns := noC
theorem f30_Cok : CsOk Try.prog (f30_C) := noC_ok
def f30_cx : Cx := mkCx (tabOf rows) (f30_C) md (cmpIn cmps) f30_plan (f30_Cok)
def f30_S1 (v : (List CV) × Int) : St := ⟨[(.sl false none v.1), .undef, .undef, (.v (CV.int .i64 v.2)), .undef, .undef, .undef, .undef, .undef, .undef, .undef, .undef, .undef, .undef, .undef, .undef, .undef, .undef, .undef], []⟩
def f30_T1 {X : Type} (k : Nat) (K : Int → Option X)   (rec1 : (List CV) × Int → Option X) (v4_0 : (List CV) × Int) : Option X :=
(bif (decide (v4_0.2 > 0)) then
grd (decide (0 ≤ (IntKind.wrap .i64 (v4_0.2 - 1)))) <|
Option.bind (v4_0.1)[(Int.toNat (IntKind.wrap .i64 (v4_0.2 - 1)))]? fun e5 =>
grd (CV.isI .u8 e5) <|
(bif ((CV.toI e5) == 255) then
rec1 (v4_0.1, (IntKind.wrap .i64 (v4_0.2 - 1)))
else
K (v4_0.2))
else
K (v4_0.2))
def f30_L1 {X : Type} (k : Nat) (K : Int → Option X)  (rec1 : (List CV) × Int → Option X) (v : (List CV) × Int) : Option X := f30_T1 k K   rec1 v
set_option maxRecDepth 100000 in
theorem f30_L1_ev {X : Type} (k : Nat) (K : Out → Option X)  (r1 : St → Option X) (v : (List CV) × Int) : loopB (f30_cx) k [.r, .r, .l, .b] (Try.f30.body.getD .skip) (retK (f30_cx) [] Try.f30.results.toList K) [] r1 (f30_S1 v) = f30_T1 k (fun u => K (f30_out u))   (fun v => r1 (f30_S1 v)) v := by kernel_rfl
theorem f30_L1_it {X : Type} (k : Nat) (K : Out → Option X)  : (fun v => iter (loopB (f30_cx) k [.r, .r, .l, .b] (Try.f30.body.getD .skip) (retK (f30_cx) [] Try.f30.results.toList K) []) k (f30_S1 v)) = iterV (f30_L1 k (fun u => K (f30_out u)) ) k :=
  iter_map (fun r1 v => (f30_L1_ev k K  r1 v).trans rfl) k
def f30_T {X : Type} (k : Nat) (K : Int → Option X) (loop1 : (List CV) × Int → Option X) (x0 : List CV) : Option X :=
loop1 (x0, (Nat.cast ((List.length x0)) : Int))
/-- "outpost/part.used" -/
def f30_A (k : Nat) : f30_R := fun X K x0 => f30_T k K (iterV (f30_L1 k K) k) x0
set_option maxRecDepth 100000 in
theorem f30_ev' {X : Type} (k : Nat) (K : Out → Option X) (x0 : List CV) : evFn (f30_cx) [] k Try.f30.ntmps Try.f30.results.toList (Try.f30.body.getD .skip) [(.sl false none x0)] [] K = f30_T k (fun u => K (f30_out u)) (fun v => iter (loopB (f30_cx) k [.r, .r, .l, .b] (Try.f30.body.getD .skip) (retK (f30_cx) [] Try.f30.results.toList K) []) k (f30_S1 v)) x0 := by kernel_rfl
theorem f30_ev {X : Type} (k : Nat) (K : Out → Option X) (x0 : List CV) : evFn (f30_cx) [] k Try.f30.ntmps Try.f30.results.toList (Try.f30.body.getD .skip) [(.sl false none x0)] [] K = f30_A k X (fun u => K (f30_out u)) x0 := (f30_ev' k K x0).trans (by rw [f30_L1_it k K]; rfl)
theorem f30_okA (k : Nat) : AnsOk Try.prog 30 (f30_cOf (f30_A k)) := by
  intro X xs ns K x h
  unfold f30_cOf at h ⊢
  split at h
  · exact ans_main S (f30_Cok) Try.func30 (ent_of Try.func30 (by kernel_rfl) rfl) rfl (fun X K => f30_ev k K _) h
  · cases h
/-- "outpost/part.used" -/
def f30 {X : Type} (k : Nat) (K : Int → Option X) (x0 : List CV) : Option X := f30_A k X K x0
theorem f30_ok (k : Nat) : AnsOk Try.prog 30 (f30_cOf (fun X => @f30 X k)) := f30_okA k
abbrev f21_R : Type 1 := (X : Type) → (Int × Int × Int × Int × Nat × Int × Nat × Int × Int × Bool × (List CV) × (List CV) → Option X) → Int → Int → Nat → Int → Nat → Int → Int → Bool → (List CV) → (List CV) → Option X
def f21_out (u : Int × Int × Int × Int × Nat × Int × Nat × Int × Int × Bool × (List CV) × (List CV)) : Out := ⟨(.tup [(.v (CV.int .i64 u.1)), (.v (CV.int .i64 u.2.1))]), [([1000], (.obj [(.ptr [1100] 0 0 0), (.v (CV.int .i64 u.2.2.1)), (.v (CV.int .i64 u.2.2.2.1))])), ([1100], (.obj [(.osl [0, 1100] none 0 u.2.2.2.2.1), (.v (CV.int .i64 u.2.2.2.2.2.1)), (.osl [2, 1100] none 0 u.2.2.2.2.2.2.1), (.v (CV.int .i64 u.2.2.2.2.2.2.2.1)), (.v (CV.int .i64 u.2.2.2.2.2.2.2.2.1)), (.v (CV.bool u.2.2.2.2.2.2.2.2.2.1))])), ([0, 1100], (.row false none u.2.2.2.2.2.2.2.2.2.2.1)), ([2, 1100], (.row false none u.2.2.2.2.2.2.2.2.2.2.2))]⟩
def f21_cOf (R : f21_R) : FnC := fun X xs ns K => match xs, ns with
  | [(.ptr [1000] 0 0 0)], [([1000], (.obj [(.ptr [1100] 0 0 0), (.v (CV.int .i64 x0)), (.v (CV.int .i64 x1))])), ([1100], (.obj [(.osl [0, 1100] none 0 x2), (.v (CV.int .i64 x3)), (.osl [2, 1100] none 0 x4), (.v (CV.int .i64 x5)), (.v (CV.int .i64 x6)), (.v (CV.bool x7))])), ([0, 1100], (.row false none x8)), ([2, 1100], (.row false none x9))] => R X (fun u => K (f21_out u)) x0 x1 x2 x3 x4 x5 x6 x7 x8 x9
  | _, _ => none
def f21_plan : Nat → Option (List Nat × List Wk)
  | 0 => some ([0], [])
  | 1 => some ([0], [])
  | 2 => some ([4, 5], [])
  | _ => none
def f21_C (R_f13 : f13_R) (R_f10 : f10_R) (R_f30 : f30_R) : Fns := (orC 10 (f10_cOf R_f10) (orC 13 (f13_cOf R_f13) (orC 30 (f30_cOf R_f30) noC)))
theorem f21_Cok (R_f13 : f13_R) (R_f10 : f10_R) (R_f30 : f30_R) (hR_f13 : AnsOk Try.prog 13 (f13_cOf R_f13)) (hR_f10 : AnsOk Try.prog 10 (f10_cOf R_f10)) (hR_f30 : AnsOk Try.prog 30 (f30_cOf R_f30)) : CsOk Try.prog (f21_C R_f13 R_f10 R_f30) := (orC_ok hR_f10 (orC_ok hR_f13 (orC_ok hR_f30 noC_ok)))
def f21_cx (R_f13 : f13_R) (R_f10 : f10_R) (R_f30 : f30_R) (hR_f13 : AnsOk Try.prog 13 (f13_cOf R_f13)) (hR_f10 : AnsOk Try.prog 10 (f10_cOf R_f10)) (hR_f30 : AnsOk Try.prog 30 (f30_cOf R_f30)) : Cx := mkCx (tabOf rows) (f21_C R_f13 R_f10 R_f30) md (cmpIn cmps) f21_plan (f21_Cok R_f13 R_f10 R_f30 hR_f13 hR_f10 hR_f30)
def f21_T {X : Type} (R_f13 : f13_R) (R_f10 : f10_R) (R_f30 : f30_R) (k : Nat) (K : Int × Int × Int × Int × Nat × Int × Nat × Int × Int × Bool × (List CV) × (List CV) → Option X)  (x0 : Int) (x1 : Int) (x2 : Nat) (x3 : Int) (x4 : Nat) (x5 : Int) (x6 : Int) (x7 : Bool) (x8 : List CV) (x9 : List CV) : Option X :=
R_f13 _ (fun u1 =>
R_f10 _ (fun u2 =>
R_f30 _ (fun u3 =>
K (u3, u2.2.1, u2.2.2.1, u2.2.2.2.1, u2.2.2.2.2.1, u2.2.2.2.2.2.1, u2.2.2.2.2.2.2.1, u2.2.2.2.2.2.2.2.1, u2.2.2.2.2.2.2.2.2.1, u2.2.2.2.2.2.2.2.2.2.1, (List.take (0 + u2.2.2.2.2.1) u2.2.2.2.2.2.2.2.2.2.2.1), (List.take (0 + u2.2.2.2.2.2.2.1) u2.2.2.2.2.2.2.2.2.2.2.2.1))) ((List.take u2.1 (List.drop 0 u2.2.2.2.2.2.2.2.2.2.2.2.2)))) (0) (u1.1) (u1.2.1) (u1.2.2.1) (u1.2.2.2.1) (u1.2.2.2.2.1) (u1.2.2.2.2.2.1) (u1.2.2.2.2.2.2.1) (u1.2.2.2.2.2.2.2.1) (u1.2.2.2.2.2.2.2.2.1) (u1.2.2.2.2.2.2.2.2.2.1) (u1.2.2.2.2.2.2.2.2.2.2)) (x0) (x1) (x2) (x3) (x4) (x5) (x6) (x7) (x8) (x9)
/-- "(*outpost/part.Part).Used" -/
def f21_A (R_f13 : f13_R) (R_f10 : f10_R) (R_f30 : f30_R) (k : Nat) : f21_R := fun X K x0 x1 x2 x3 x4 x5 x6 x7 x8 x9 => f21_T R_f13 R_f10 R_f30 k K  x0 x1 x2 x3 x4 x5 x6 x7 x8 x9
set_option maxRecDepth 100000 in
theorem f21_ev' {X : Type} (R_f13 : f13_R) (R_f10 : f10_R) (R_f30 : f30_R) (hR_f13 : AnsOk Try.prog 13 (f13_cOf R_f13)) (hR_f10 : AnsOk Try.prog 10 (f10_cOf R_f10)) (hR_f30 : AnsOk Try.prog 30 (f30_cOf R_f30)) (k : Nat) (K : Out → Option X) (x0 : Int) (x1 : Int) (x2 : Nat) (x3 : Int) (x4 : Nat) (x5 : Int) (x6 : Int) (x7 : Bool) (x8 : List CV) (x9 : List CV) : evFn (f21_cx R_f13 R_f10 R_f30 hR_f13 hR_f10 hR_f30) [] k Try.f21.ntmps Try.f21.results.toList (Try.f21.body.getD .skip) [(.ptr [1000] 0 0 0)] [([1000], (.obj [(.ptr [1100] 0 0 0), (.v (CV.int .i64 x0)), (.v (CV.int .i64 x1))])), ([1100], (.obj [(.osl [0, 1100] none 0 x2), (.v (CV.int .i64 x3)), (.osl [2, 1100] none 0 x4), (.v (CV.int .i64 x5)), (.v (CV.int .i64 x6)), (.v (CV.bool x7))])), ([0, 1100], (.row false none x8)), ([2, 1100], (.row false none x9))] K = f21_T R_f13 R_f10 R_f30 k (fun u => K (f21_out u)) x0 x1 x2 x3 x4 x5 x6 x7 x8 x9 := by kernel_rfl
theorem f21_ev {X : Type} (R_f13 : f13_R) (R_f10 : f10_R) (R_f30 : f30_R) (hR_f13 : AnsOk Try.prog 13 (f13_cOf R_f13)) (hR_f10 : AnsOk Try.prog 10 (f10_cOf R_f10)) (hR_f30 : AnsOk Try.prog 30 (f30_cOf R_f30)) (k : Nat) (K : Out → Option X) (x0 : Int) (x1 : Int) (x2 : Nat) (x3 : Int) (x4 : Nat) (x5 : Int) (x6 : Int) (x7 : Bool) (x8 : List CV) (x9 : List CV) : evFn (f21_cx R_f13 R_f10 R_f30 hR_f13 hR_f10 hR_f30) [] k Try.f21.ntmps Try.f21.results.toList (Try.f21.body.getD .skip) [(.ptr [1000] 0 0 0)] [([1000], (.obj [(.ptr [1100] 0 0 0), (.v (CV.int .i64 x0)), (.v (CV.int .i64 x1))])), ([1100], (.obj [(.osl [0, 1100] none 0 x2), (.v (CV.int .i64 x3)), (.osl [2, 1100] none 0 x4), (.v (CV.int .i64 x5)), (.v (CV.int .i64 x6)), (.v (CV.bool x7))])), ([0, 1100], (.row false none x8)), ([2, 1100], (.row false none x9))] K = f21_A R_f13 R_f10 R_f30 k X (fun u => K (f21_out u)) x0 x1 x2 x3 x4 x5 x6 x7 x8 x9 := (f21_ev' R_f13 R_f10 R_f30 hR_f13 hR_f10 hR_f30 k K x0 x1 x2 x3 x4 x5 x6 x7 x8 x9).trans rfl
theorem f21_okA (R_f13 : f13_R) (R_f10 : f10_R) (R_f30 : f30_R) (hR_f13 : AnsOk Try.prog 13 (f13_cOf R_f13)) (hR_f10 : AnsOk Try.prog 10 (f10_cOf R_f10)) (hR_f30 : AnsOk Try.prog 30 (f30_cOf R_f30)) (k : Nat) : AnsOk Try.prog 21 (f21_cOf (f21_A R_f13 R_f10 R_f30 k)) := by
  intro X xs ns K x h
  unfold f21_cOf at h ⊢
  split at h
  · exact ans_main S (f21_Cok R_f13 R_f10 R_f30 hR_f13 hR_f10 hR_f30) Try.func21 (ent_of Try.func21 (by kernel_rfl) rfl) rfl (fun X K => f21_ev R_f13 R_f10 R_f30 hR_f13 hR_f10 hR_f30 k K _ _ _ _ _ _ _ _ _ _) h
  · cases h
/-- "(*outpost/part.Part).Used" -/
def f21 {X : Type} (k : Nat) (K : Int × Int × Int × Int × Nat × Int × Nat × Int × Int × Bool × (List CV) × (List CV) → Option X) (x0 : Int) (x1 : Int) (x2 : Nat) (x3 : Int) (x4 : Nat) (x5 : Int) (x6 : Int) (x7 : Bool) (x8 : List CV) (x9 : List CV) : Option X := f21_A (fun X => @f13 X k) (fun X => @f10 X k) (fun X => @f30 X k) k X K x0 x1 x2 x3 x4 x5 x6 x7 x8 x9
theorem f21_ok (k : Nat) : AnsOk Try.prog 21 (f21_cOf (fun X => @f21 X k)) := f21_okA (fun X => @f13 X k) (fun X => @f10 X k) (fun X => @f30 X k) (f13_ok k) (f10_ok k) (f30_ok k) k
abbrev f12_R : Type 1 := (X : Type) → (Bool × Int × Int × Int × Nat × Int × Nat × Int × Int × Bool × (List CV) × (List CV) → Option X) → Int → Int → Int → Int → Nat → Int → Nat → Int → Int → Bool → (List CV) → (List CV) → Option X
def f12_out (u : Bool × Int × Int × Int × Nat × Int × Nat × Int × Int × Bool × (List CV) × (List CV)) : Out := ⟨(.tup [(.v (CV.bool u.1)), (.v (CV.int .i64 u.2.1))]), [([1000], (.obj [(.ptr [1100] 0 0 0), (.v (CV.int .i64 u.2.2.1)), (.v (CV.int .i64 u.2.2.2.1))])), ([1100], (.obj [(.osl [0, 1100] none 0 u.2.2.2.2.1), (.v (CV.int .i64 u.2.2.2.2.2.1)), (.osl [2, 1100] none 0 u.2.2.2.2.2.2.1), (.v (CV.int .i64 u.2.2.2.2.2.2.2.1)), (.v (CV.int .i64 u.2.2.2.2.2.2.2.2.1)), (.v (CV.bool u.2.2.2.2.2.2.2.2.2.1))])), ([0, 1100], (.row false none u.2.2.2.2.2.2.2.2.2.2.1)), ([2, 1100], (.row false none u.2.2.2.2.2.2.2.2.2.2.2))]⟩
def f12_cOf (R : f12_R) : FnC := fun X xs ns K => match xs, ns with
  | [(.ptr [1000] 0 0 0), (.v (CV.int .i64 x0)), (.v (CV.int .i64 x1))], [([1000], (.obj [(.ptr [1100] 0 0 0), (.v (CV.int .i64 x2)), (.v (CV.int .i64 x3))])), ([1100], (.obj [(.osl [0, 1100] none 0 x4), (.v (CV.int .i64 x5)), (.osl [2, 1100] none 0 x6), (.v (CV.int .i64 x7)), (.v (CV.int .i64 x8)), (.v (CV.bool x9))])), ([0, 1100], (.row false none x10)), ([2, 1100], (.row false none x11))] => R X (fun u => K (f12_out u)) x0 x1 x2 x3 x4 x5 x6 x7 x8 x9 x10 x11
  | _, _ => none
def f12_plan : Nat → Option (List Nat × List Wk)
  | 0 => some ([0, 1, 2], [])
  | 1 => some ([0, 1, 2], [])
  | 2 => some ([8, 9], [])
  | _ => none
def f12_C (R_f10 : f10_R) (R_f30 : f30_R) : Fns := (orC 10 (f10_cOf R_f10) (orC 30 (f30_cOf R_f30) noC))
theorem f12_Cok (R_f10 : f10_R) (R_f30 : f30_R) (hR_f10 : AnsOk Try.prog 10 (f10_cOf R_f10)) (hR_f30 : AnsOk Try.prog 30 (f30_cOf R_f30)) : CsOk Try.prog (f12_C R_f10 R_f30) := (orC_ok hR_f10 (orC_ok hR_f30 noC_ok))
def f12_cx (R_f10 : f10_R) (R_f30 : f30_R) (hR_f10 : AnsOk Try.prog 10 (f10_cOf R_f10)) (hR_f30 : AnsOk Try.prog 30 (f30_cOf R_f30)) : Cx := mkCx (tabOf rows) (f12_C R_f10 R_f30) md (cmpIn cmps) f12_plan (f12_Cok R_f10 R_f30 hR_f10 hR_f30)
def f12_T {X : Type} (R_f10 : f10_R) (R_f30 : f30_R) (k : Nat) (K : Bool × Int × Int × Int × Nat × Int × Nat × Int × Int × Bool × (List CV) × (List CV) → Option X)  (x0 : Int) (x1 : Int) (x2 : Int) (x3 : Int) (x4 : Nat) (x5 : Int) (x6 : Nat) (x7 : Int) (x8 : Int) (x9 : Bool) (x10 : List CV) (x11 : List CV) : Option X :=
R_f10 _ (fun u1 =>
(bif (u1.2.1 == 0) then
R_f30 _ (fun u2 =>
K ((u2 == 0), u1.2.1, u1.2.2.1, u1.2.2.2.1, u1.2.2.2.2.1, u1.2.2.2.2.2.1, u1.2.2.2.2.2.2.1, u1.2.2.2.2.2.2.2.1, u1.2.2.2.2.2.2.2.2.1, u1.2.2.2.2.2.2.2.2.2.1, (List.take (0 + u1.2.2.2.2.1) u1.2.2.2.2.2.2.2.2.2.2.1), (List.take (0 + u1.2.2.2.2.2.2.1) u1.2.2.2.2.2.2.2.2.2.2.2.1))) ((List.take u1.1 (List.drop 0 u1.2.2.2.2.2.2.2.2.2.2.2.2)))
else
K (false, u1.2.1, u1.2.2.1, u1.2.2.2.1, u1.2.2.2.2.1, u1.2.2.2.2.2.1, u1.2.2.2.2.2.2.1, u1.2.2.2.2.2.2.2.1, u1.2.2.2.2.2.2.2.2.1, u1.2.2.2.2.2.2.2.2.2.1, (List.take (0 + u1.2.2.2.2.1) u1.2.2.2.2.2.2.2.2.2.2.1), (List.take (0 + u1.2.2.2.2.2.2.1) u1.2.2.2.2.2.2.2.2.2.2.2.1)))) (x0) (x1) (x2) (x3) (x4) (x5) (x6) (x7) (x8) (x9) (x10) (x11)
/-- "(*outpost/part.Part).Blank" -/
def f12_A (R_f10 : f10_R) (R_f30 : f30_R) (k : Nat) : f12_R := fun X K x0 x1 x2 x3 x4 x5 x6 x7 x8 x9 x10 x11 => f12_T R_f10 R_f30 k K  x0 x1 x2 x3 x4 x5 x6 x7 x8 x9 x10 x11
set_option maxRecDepth 100000 in
theorem f12_ev' {X : Type} (R_f10 : f10_R) (R_f30 : f30_R) (hR_f10 : AnsOk Try.prog 10 (f10_cOf R_f10)) (hR_f30 : AnsOk Try.prog 30 (f30_cOf R_f30)) (k : Nat) (K : Out → Option X) (x0 : Int) (x1 : Int) (x2 : Int) (x3 : Int) (x4 : Nat) (x5 : Int) (x6 : Nat) (x7 : Int) (x8 : Int) (x9 : Bool) (x10 : List CV) (x11 : List CV) : evFn (f12_cx R_f10 R_f30 hR_f10 hR_f30) [] k Try.f12.ntmps Try.f12.results.toList (Try.f12.body.getD .skip) [(.ptr [1000] 0 0 0), (.v (CV.int .i64 x0)), (.v (CV.int .i64 x1))] [([1000], (.obj [(.ptr [1100] 0 0 0), (.v (CV.int .i64 x2)), (.v (CV.int .i64 x3))])), ([1100], (.obj [(.osl [0, 1100] none 0 x4), (.v (CV.int .i64 x5)), (.osl [2, 1100] none 0 x6), (.v (CV.int .i64 x7)), (.v (CV.int .i64 x8)), (.v (CV.bool x9))])), ([0, 1100], (.row false none x10)), ([2, 1100], (.row false none x11))] K = f12_T R_f10 R_f30 k (fun u => K (f12_out u)) x0 x1 x2 x3 x4 x5 x6 x7 x8 x9 x10 x11 := by kernel_rfl
theorem f12_ev {X : Type} (R_f10 : f10_R) (R_f30 : f30_R) (hR_f10 : AnsOk Try.prog 10 (f10_cOf R_f10)) (hR_f30 : AnsOk Try.prog 30 (f30_cOf R_f30)) (k : Nat) (K : Out → Option X) (x0 : Int) (x1 : Int) (x2 : Int) (x3 : Int) (x4 : Nat) (x5 : Int) (x6 : Nat) (x7 : Int) (x8 : Int) (x9 : Bool) (x10 : List CV) (x11 : List CV) : evFn (f12_cx R_f10 R_f30 hR_f10 hR_f30) [] k Try.f12.ntmps Try.f12.results.toList (Try.f12.body.getD .skip) [(.ptr [1000] 0 0 0), (.v (CV.int .i64 x0)), (.v (CV.int .i64 x1))] [([1000], (.obj [(.ptr [1100] 0 0 0), (.v (CV.int .i64 x2)), (.v (CV.int .i64 x3))])), ([1100], (.obj [(.osl [0, 1100] none 0 x4), (.v (CV.int .i64 x5)), (.osl [2, 1100] none 0 x6), (.v (CV.int .i64 x7)), (.v (CV.int .i64 x8)), (.v (CV.bool x9))])), ([0, 1100], (.row false none x10)), ([2, 1100], (.row false none x11))] K = f12_A R_f10 R_f30 k X (fun u => K (f12_out u)) x0 x1 x2 x3 x4 x5 x6 x7 x8 x9 x10 x11 := (f12_ev' R_f10 R_f30 hR_f10 hR_f30 k K x0 x1 x2 x3 x4 x5 x6 x7 x8 x9 x10 x11).trans rfl
theorem f12_okA (R_f10 : f10_R) (R_f30 : f30_R) (hR_f10 : AnsOk Try.prog 10 (f10_cOf R_f10)) (hR_f30 : AnsOk Try.prog 30 (f30_cOf R_f30)) (k : Nat) : AnsOk Try.prog 12 (f12_cOf (f12_A R_f10 R_f30 k)) := by
  intro X xs ns K x h
  unfold f12_cOf at h ⊢
  split at h
  · exact ans_main S (f12_Cok R_f10 R_f30 hR_f10 hR_f30) Try.func12 (ent_of Try.func12 (by kernel_rfl) rfl) rfl (fun X K => f12_ev R_f10 R_f30 hR_f10 hR_f30 k K _ _ _ _ _ _ _ _ _ _ _ _) h
  · cases h
/-- "(*outpost/part.Part).Blank" -/
def f12 {X : Type} (k : Nat) (K : Bool × Int × Int × Int × Nat × Int × Nat × Int × Int × Bool × (List CV) × (List CV) → Option X) (x0 : Int) (x1 : Int) (x2 : Int) (x3 : Int) (x4 : Nat) (x5 : Int) (x6 : Nat) (x7 : Int) (x8 : Int) (x9 : Bool) (x10 : List CV) (x11 : List CV) : Option X := f12_A (fun X => @f10 X k) (fun X => @f30 X k) k X K x0 x1 x2 x3 x4 x5 x6 x7 x8 x9 x10 x11
theorem f12_ok (k : Nat) : AnsOk Try.prog 12 (f12_cOf (fun X => @f12 X k)) := f12_okA (fun X => @f10 X k) (fun X => @f30 X k) (f10_ok k) (f30_ok k) k
abbrev f29_R : Type 1 := (X : Type) → (Int × Nat × Int × Nat × Int × Int × Bool × (List CV) × (List CV) → Option X) → Int → Nat → Int → Nat → Int → Int → Bool → (List CV) → (List CV) → Option X
def f29_out (u : Int × Nat × Int × Nat × Int × Int × Bool × (List CV) × (List CV)) : Out := ⟨(.v (CV.int .i64 u.1)), [([1000], (.obj [(.osl [0, 1000] none 0 u.2.1), (.v (CV.int .i64 u.2.2.1)), (.osl [2, 1000] none 0 u.2.2.2.1), (.v (CV.int .i64 u.2.2.2.2.1)), (.v (CV.int .i64 u.2.2.2.2.2.1)), (.v (CV.bool u.2.2.2.2.2.2.1))])), ([0, 1000], (.row false none u.2.2.2.2.2.2.2.1)), ([2, 1000], (.row false none u.2.2.2.2.2.2.2.2))]⟩
def f29_cOf (R : f29_R) : FnC := fun X xs ns K => match xs, ns with
  | [(.ptr [1000] 0 0 0), (.v (CV.int .i64 x0))], [([1000], (.obj [(.osl [0, 1000] none 0 x1), (.v (CV.int .i64 x2)), (.osl [2, 1000] none 0 x3), (.v (CV.int .i64 x4)), (.v (CV.int .i64 x5)), (.v (CV.bool x6))])), ([0, 1000], (.row false none x7)), ([2, 1000], (.row false none x8))] => R X (fun u => K (f29_out u)) x0 x1 x2 x3 x4 x5 x6 x7 x8
  | _, _ => none
def f29_plan : Nat → Option (List Nat × List Wk)
  | 0 => some ([0, 1], [])
  | 1 => some ([0, 1], [])
  | 2 => some ([], [])
  | 3 => some ([0, 1], [])
  | 4 => some ([], [])
  | 5 => some ([0, 1], [])
  | 6 => some ([0, 1], [])
  | 7 => some ([0, 1, 41, 42], [])
  | 8 => some ([0, 1, 41, 42], [])
  | 9 => some ([0, 1, 5, 41, 42], [])
  | 10 => some ([], [])
  | 11 => some ([0, 1, 41, 42], [])
  | 12 => some ([], [])
  | _ => none
def f29_C (R_f39 : f39_R) : Fns := (orC 39 (f39_cOf R_f39) noC)
theorem f29_Cok (R_f39 : f39_R) (hR_f39 : AnsOk Try.prog 39 (f39_cOf R_f39)) : CsOk Try.prog (f29_C R_f39) := (orC_ok hR_f39 noC_ok)
def f29_cx (R_f39 : f39_R) (hR_f39 : AnsOk Try.prog 39 (f39_cOf R_f39)) : Cx := mkCx (tabOf rows) (f29_C R_f39) md (cmpIn cmps) f29_plan (f29_Cok R_f39 hR_f39)
def f29_S1 (v : Int × Int × Int × Nat × Int × Nat × Int × Int × Bool × (List CV) × (List CV)) : St := ⟨[(.ptr [1000] 0 0 0), (.v (CV.int .i64 v.1)), .undef, .undef, .undef, .undef, .undef, .undef, .undef, .undef, .undef, .undef, .undef, .undef, .undef, .undef, .undef, .undef, .undef, .undef, .undef, .undef, .undef, .undef, .undef, .undef, .undef, .undef, .undef, .undef, .undef, .undef, .undef, .undef, .undef, .undef, .undef, .undef, .undef, .undef, .undef, (.v (CV.int .i64 v.2.1)), (.v (CV.int .i64 v.2.2.1)), .undef, .undef, .undef, .undef, .undef, .undef, .undef, .undef, .undef, .undef, .undef, .undef, .undef, .undef], [([1000], (.obj [(.osl [0, 1000] none 0 v.2.2.2.1), (.v (CV.int .i64 v.2.2.2.2.1)), (.osl [2, 1000] none 0 v.2.2.2.2.2.1), (.v (CV.int .i64 v.2.2.2.2.2.2.1)), (.v (CV.int .i64 v.2.2.2.2.2.2.2.1)), (.v (CV.bool v.2.2.2.2.2.2.2.2.1))])), ([0, 1000], (.row false none v.2.2.2.2.2.2.2.2.2.1)), ([2, 1000], (.row false none v.2.2.2.2.2.2.2.2.2.2))]⟩
def f29_T1 {X : Type} (R_f39 : f39_R) (k : Nat) (K : Int × Nat × Int × Nat × Int × Int × Bool × (List CV) × (List CV) → Option X)   (rec1 : Int × Int × Int × Nat × Int × Nat × Int × Int × Bool × (List CV) × (List CV) → Option X) (v6_1 : Int × Int × Int × Nat × Int × Nat × Int × Int × Bool × (List CV) × (List CV)) : Option X :=
(bif (decide (v6_1.2.2.1 < v6_1.2.1)) then
R_f39 _ (fun u6 =>
(bif (!u6.1) then
K (30, u6.2.1, u6.2.2.1, u6.2.2.2.1, u6.2.2.2.2.1, u6.2.2.2.2.2.1, u6.2.2.2.2.2.2.1, (List.take (0 + u6.2.1) u6.2.2.2.2.2.2.2.1), (List.take (0 + u6.2.2.2.1) u6.2.2.2.2.2.2.2.2))
else
rec1 (v6_1.1, v6_1.2.1, (IntKind.wrap .i64 (v6_1.2.2.1 + 1)), u6.2.1, u6.2.2.1, u6.2.2.2.1, u6.2.2.2.2.1, u6.2.2.2.2.2.1, u6.2.2.2.2.2.2.1, u6.2.2.2.2.2.2.2.1, u6.2.2.2.2.2.2.2.2))) ((IntKind.wrap .i64 ((IntKind.wrap .i64 (v6_1.1 * v6_1.2.2.2.2.1)) + v6_1.2.2.1))) (255) (v6_1.2.2.2.1) (v6_1.2.2.2.2.1) (v6_1.2.2.2.2.2.1) (v6_1.2.2.2.2.2.2.1) (v6_1.2.2.2.2.2.2.2.1) (v6_1.2.2.2.2.2.2.2.2.1) (v6_1.2.2.2.2.2.2.2.2.2.1) (v6_1.2.2.2.2.2.2.2.2.2.2)
else
K (0, v6_1.2.2.2.1, v6_1.2.2.2.2.1, v6_1.2.2.2.2.2.1, v6_1.2.2.2.2.2.2.1, v6_1.2.2.2.2.2.2.2.1, v6_1.2.2.2.2.2.2.2.2.1, (List.take (0 + v6_1.2.2.2.1) v6_1.2.2.2.2.2.2.2.2.2.1), (List.take (0 + v6_1.2.2.2.2.2.1) v6_1.2.2.2.2.2.2.2.2.2.2)))
def f29_L1 {X : Type} (R_f39 : f39_R) (k : Nat) (K : Int × Nat × Int × Nat × Int × Int × Bool × (List CV) × (List CV) → Option X)  (rec1 : Int × Int × Int × Nat × Int × Nat × Int × Int × Bool × (List CV) × (List CV) → Option X) (v : Int × Int × Int × Nat × Int × Nat × Int × Int × Bool × (List CV) × (List CV)) : Option X := f29_T1 R_f39 k K   rec1 v
set_option maxRecDepth 100000 in
theorem f29_L1_ev {X : Type} (R_f39 : f39_R) (hR_f39 : AnsOk Try.prog 39 (f39_cOf R_f39)) (k : Nat) (K : Out → Option X)  (r1 : St → Option X) (v : Int × Int × Int × Nat × Int × Nat × Int × Int × Bool × (List CV) × (List CV)) : loopB (f29_cx R_f39 hR_f39) k [.r, .r, .r, .l, .r, .b] (Try.f29.body.getD .skip) (retK (f29_cx R_f39 hR_f39) [] Try.f29.results.toList K) [] r1 (f29_S1 v) = f29_T1 R_f39 k (fun u => K (f29_out u))   (fun v => r1 (f29_S1 v)) v := by kernel_rfl
theorem f29_L1_it {X : Type} (R_f39 : f39_R) (hR_f39 : AnsOk Try.prog 39 (f39_cOf R_f39)) (k : Nat) (K : Out → Option X)  : (fun v => iter (loopB (f29_cx R_f39 hR_f39) k [.r, .r, .r, .l, .r, .b] (Try.f29.body.getD .skip) (retK (f29_cx R_f39 hR_f39) [] Try.f29.results.toList K) []) k (f29_S1 v)) = iterV (f29_L1 R_f39 k (fun u => K (f29_out u)) ) k :=
  iter_map (fun r1 v => (f29_L1_ev R_f39 hR_f39 k K  r1 v).trans rfl) k
def f29_T {X : Type} (R_f39 : f39_R) (k : Nat) (K : Int × Nat × Int × Nat × Int × Int × Bool × (List CV) × (List CV) → Option X) (loop1 : Int × Int × Int × Nat × Int × Nat × Int × Int × Bool × (List CV) × (List CV) → Option X) (x0 : Int) (x1 : Nat) (x2 : Int) (x3 : Nat) (x4 : Int) (x5 : Int) (x6 : Bool) (x7 : List CV) (x8 : List CV) : Option X :=
(bif x6 then
K (30, x1, x2, x3, x4, x5, x6, (List.take (0 + x1) x7), (List.take (0 + x3) x8))
else
(bif (decide (x0 < 0)) then
K (1, x1, x2, x3, x4, x5, x6, (List.take (0 + x1) x7), (List.take (0 + x3) x8))
else
(bif (decide (x0 ≥ (Nat.cast (x3) : Int))) then
K (1, x1, x2, x3, x4, x5, x6, (List.take (0 + x1) x7), (List.take (0 + x3) x8))
else
grd (decide (0 ≤ x0)) <|
grd (decide (x0 < (Nat.cast (x3) : Int))) <|
Option.bind (x8)[(0 + (Int.toNat x0))]? fun e1 =>
grd (CV.isI .i64 e1) <|
grd (decide (0 ≤ x0)) <|
grd (decide (x0 < (Nat.cast (x3) : Int))) <|
grd (decide ((0 + (Int.toNat x0)) < (List.length x8))) <|
loop1 (x0, x2, 0, x1, x2, x3, x4, x5, x6, x7, (List.set x8 (0 + (Int.toNat x0)) (CV.int .i64 (if 1073741824 < (IntKind.wrap .i64 ((CV.toI e1) + 1)) then 1073741824 else (IntKind.wrap .i64 ((CV.toI e1) + 1)))))))))
/-- "(*outpost/flash.Flash).Erase" -/
def f29_A (R_f39 : f39_R) (k : Nat) : f29_R := fun X K x0 x1 x2 x3 x4 x5 x6 x7 x8 => f29_T R_f39 k K (iterV (f29_L1 R_f39 k K) k) x0 x1 x2 x3 x4 x5 x6 x7 x8
set_option maxRecDepth 100000 in
theorem f29_ev' {X : Type} (R_f39 : f39_R) (hR_f39 : AnsOk Try.prog 39 (f39_cOf R_f39)) (k : Nat) (K : Out → Option X) (x0 : Int) (x1 : Nat) (x2 : Int) (x3 : Nat) (x4 : Int) (x5 : Int) (x6 : Bool) (x7 : List CV) (x8 : List CV) : evFn (f29_cx R_f39 hR_f39) [] k Try.f29.ntmps Try.f29.results.toList (Try.f29.body.getD .skip) [(.ptr [1000] 0 0 0), (.v (CV.int .i64 x0))] [([1000], (.obj [(.osl [0, 1000] none 0 x1), (.v (CV.int .i64 x2)), (.osl [2, 1000] none 0 x3), (.v (CV.int .i64 x4)), (.v (CV.int .i64 x5)), (.v (CV.bool x6))])), ([0, 1000], (.row false none x7)), ([2, 1000], (.row false none x8))] K = f29_T R_f39 k (fun u => K (f29_out u)) (fun v => iter (loopB (f29_cx R_f39 hR_f39) k [.r, .r, .r, .l, .r, .b] (Try.f29.body.getD .skip) (retK (f29_cx R_f39 hR_f39) [] Try.f29.results.toList K) []) k (f29_S1 v)) x0 x1 x2 x3 x4 x5 x6 x7 x8 := by kernel_rfl
theorem f29_ev {X : Type} (R_f39 : f39_R) (hR_f39 : AnsOk Try.prog 39 (f39_cOf R_f39)) (k : Nat) (K : Out → Option X) (x0 : Int) (x1 : Nat) (x2 : Int) (x3 : Nat) (x4 : Int) (x5 : Int) (x6 : Bool) (x7 : List CV) (x8 : List CV) : evFn (f29_cx R_f39 hR_f39) [] k Try.f29.ntmps Try.f29.results.toList (Try.f29.body.getD .skip) [(.ptr [1000] 0 0 0), (.v (CV.int .i64 x0))] [([1000], (.obj [(.osl [0, 1000] none 0 x1), (.v (CV.int .i64 x2)), (.osl [2, 1000] none 0 x3), (.v (CV.int .i64 x4)), (.v (CV.int .i64 x5)), (.v (CV.bool x6))])), ([0, 1000], (.row false none x7)), ([2, 1000], (.row false none x8))] K = f29_A R_f39 k X (fun u => K (f29_out u)) x0 x1 x2 x3 x4 x5 x6 x7 x8 := (f29_ev' R_f39 hR_f39 k K x0 x1 x2 x3 x4 x5 x6 x7 x8).trans (by rw [f29_L1_it R_f39 hR_f39 k K]; rfl)
theorem f29_okA (R_f39 : f39_R) (hR_f39 : AnsOk Try.prog 39 (f39_cOf R_f39)) (k : Nat) : AnsOk Try.prog 29 (f29_cOf (f29_A R_f39 k)) := by
  intro X xs ns K x h
  unfold f29_cOf at h ⊢
  split at h
  · exact ans_main S (f29_Cok R_f39 hR_f39) Try.func29 (ent_of Try.func29 (by kernel_rfl) rfl) rfl (fun X K => f29_ev R_f39 hR_f39 k K _ _ _ _ _ _ _ _ _) h
  · cases h
/-- "(*outpost/flash.Flash).Erase" -/
def f29 {X : Type} (k : Nat) (K : Int × Nat × Int × Nat × Int × Int × Bool × (List CV) × (List CV) → Option X) (x0 : Int) (x1 : Nat) (x2 : Int) (x3 : Nat) (x4 : Int) (x5 : Int) (x6 : Bool) (x7 : List CV) (x8 : List CV) : Option X := f29_A (fun X => @f39 X k) k X K x0 x1 x2 x3 x4 x5 x6 x7 x8
theorem f29_ok (k : Nat) : AnsOk Try.prog 29 (f29_cOf (fun X => @f29 X k)) := f29_okA (fun X => @f39 X k) (f39_ok k) k
abbrev f9_R : Type 1 := (X : Type) → (Int × Int × Int × Nat × Int × Nat × Int × Int × Bool × (List CV) × (List CV) → Option X) → Int → Int → Nat → Int → Nat → Int → Int → Bool → (List CV) → (List CV) → Option X
def f9_out (u : Int × Int × Int × Nat × Int × Nat × Int × Int × Bool × (List CV) × (List CV)) : Out := ⟨(.v (CV.int .i64 u.1)), [([1000], (.obj [(.ptr [1100] 0 0 0), (.v (CV.int .i64 u.2.1)), (.v (CV.int .i64 u.2.2.1))])), ([1100], (.obj [(.osl [0, 1100] none 0 u.2.2.2.1), (.v (CV.int .i64 u.2.2.2.2.1)), (.osl [2, 1100] none 0 u.2.2.2.2.2.1), (.v (CV.int .i64 u.2.2.2.2.2.2.1)), (.v (CV.int .i64 u.2.2.2.2.2.2.2.1)), (.v (CV.bool u.2.2.2.2.2.2.2.2.1))])), ([0, 1100], (.row false none u.2.2.2.2.2.2.2.2.2.1)), ([2, 1100], (.row false none u.2.2.2.2.2.2.2.2.2.2))]⟩
def f9_cOf (R : f9_R) : FnC := fun X xs ns K => match xs, ns with
  | [(.ptr [1000] 0 0 0)], [([1000], (.obj [(.ptr [1100] 0 0 0), (.v (CV.int .i64 x0)), (.v (CV.int .i64 x1))])), ([1100], (.obj [(.osl [0, 1100] none 0 x2), (.v (CV.int .i64 x3)), (.osl [2, 1100] none 0 x4), (.v (CV.int .i64 x5)), (.v (CV.int .i64 x6)), (.v (CV.bool x7))])), ([0, 1100], (.row false none x8)), ([2, 1100], (.row false none x9))] => R X (fun u => K (f9_out u)) x0 x1 x2 x3 x4 x5 x6 x7 x8 x9
  | _, _ => none
def f9_plan : Nat → Option (List Nat × List Wk)
  | 0 => some ([0], [])
  | 1 => some ([0], [])
  | 2 => some ([0, 8, 9], [])
  | 3 => some ([0, 8, 9], [])
  | 4 => some ([0, 3, 8, 9], [])
  | 5 => some ([0, 4, 8, 9], [])
  | 6 => some ([4], [])
  | 7 => some ([0, 8, 9], [])
  | 8 => some ([], [])
  | _ => none
def f9_C (R_f29 : f29_R) : Fns := (orC 29 (f29_cOf R_f29) noC)
theorem f9_Cok (R_f29 : f29_R) (hR_f29 : AnsOk Try.prog 29 (f29_cOf R_f29)) : CsOk Try.prog (f9_C R_f29) := (orC_ok hR_f29 noC_ok)
def f9_cx (R_f29 : f29_R) (hR_f29 : AnsOk Try.prog 29 (f29_cOf R_f29)) : Cx := mkCx (tabOf rows) (f9_C R_f29) md (cmpIn cmps) f9_plan (f9_Cok R_f29 hR_f29)
def f9_S1 (v : Int × Int × Int × Int × Nat × Int × Nat × Int × Int × Bool × (List CV) × (List CV)) : St := ⟨[(.ptr [1000] 0 0 0), .undef, .undef, .undef, .undef, .undef, .undef, .undef, (.v (CV.int .i64 v.1)), (.v (CV.int .i64 v.2.1)), .undef, .undef, .undef, .undef, .undef, .undef, .undef, .undef, .undef, .undef, .undef, .undef, .undef, .undef, .undef, .undef, .undef], [([1000], (.obj [(.ptr [1100] 0 0 0), (.v (CV.int .i64 v.2.2.1)), (.v (CV.int .i64 v.2.2.2.1))])), ([1100], (.obj [(.osl [0, 1100] none 0 v.2.2.2.2.1), (.v (CV.int .i64 v.2.2.2.2.2.1)), (.osl [2, 1100] none 0 v.2.2.2.2.2.2.1), (.v (CV.int .i64 v.2.2.2.2.2.2.2.1)), (.v (CV.int .i64 v.2.2.2.2.2.2.2.2.1)), (.v (CV.bool v.2.2.2.2.2.2.2.2.2.1))])), ([0, 1100], (.row false none v.2.2.2.2.2.2.2.2.2.2.1)), ([2, 1100], (.row false none v.2.2.2.2.2.2.2.2.2.2.2))]⟩
def f9_T1 {X : Type} (R_f29 : f29_R) (k : Nat) (K : Int × Int × Int × Nat × Int × Nat × Int × Int × Bool × (List CV) × (List CV) → Option X)   (rec1 : Int × Int × Int × Int × Nat × Int × Nat × Int × Int × Bool × (List CV) × (List CV) → Option X) (v4_0 : Int × Int × Int × Int × Nat × Int × Nat × Int × Int × Bool × (List CV) × (List CV)) : Option X :=
(bif (decide (v4_0.2.1 < v4_0.1)) then
R_f29 _ (fun u5 =>
(bif (u5.1 != 0) then
K (u5.1, v4_0.2.2.1, v4_0.2.2.2.1, u5.2.1, u5.2.2.1, u5.2.2.2.1, u5.2.2.2.2.1, u5.2.2.2.2.2.1, u5.2.2.2.2.2.2.1, (List.take (0 + u5.2.1) u5.2.2.2.2.2.2.2.1), (List.take (0 + u5.2.2.2.1) u5.2.2.2.2.2.2.2.2))
else
rec1 (v4_0.1, (IntKind.wrap .i64 (v4_0.2.1 + 1)), v4_0.2.2.1, v4_0.2.2.2.1, u5.2.1, u5.2.2.1, u5.2.2.2.1, u5.2.2.2.2.1, u5.2.2.2.2.2.1, u5.2.2.2.2.2.2.1, u5.2.2.2.2.2.2.2.1, u5.2.2.2.2.2.2.2.2))) ((IntKind.wrap .i64 (v4_0.2.2.1 + v4_0.2.1))) (v4_0.2.2.2.2.1) (v4_0.2.2.2.2.2.1) (v4_0.2.2.2.2.2.2.1) (v4_0.2.2.2.2.2.2.2.1) (v4_0.2.2.2.2.2.2.2.2.1) (v4_0.2.2.2.2.2.2.2.2.2.1) (v4_0.2.2.2.2.2.2.2.2.2.2.1) (v4_0.2.2.2.2.2.2.2.2.2.2.2)
else
K (0, v4_0.2.2.1, v4_0.2.2.2.1, v4_0.2.2.2.2.1, v4_0.2.2.2.2.2.1, v4_0.2.2.2.2.2.2.1, v4_0.2.2.2.2.2.2.2.1, v4_0.2.2.2.2.2.2.2.2.1, v4_0.2.2.2.2.2.2.2.2.2.1, (List.take (0 + v4_0.2.2.2.2.1) v4_0.2.2.2.2.2.2.2.2.2.2.1), (List.take (0 + v4_0.2.2.2.2.2.2.1) v4_0.2.2.2.2.2.2.2.2.2.2.2)))
def f9_L1 {X : Type} (R_f29 : f29_R) (k : Nat) (K : Int × Int × Int × Nat × Int × Nat × Int × Int × Bool × (List CV) × (List CV) → Option X)  (rec1 : Int × Int × Int × Int × Nat × Int × Nat × Int × Int × Bool × (List CV) × (List CV) → Option X) (v : Int × Int × Int × Int × Nat × Int × Nat × Int × Int × Bool × (List CV) × (List CV)) : Option X := f9_T1 R_f29 k K   rec1 v
set_option maxRecDepth 100000 in
theorem f9_L1_ev {X : Type} (R_f29 : f29_R) (hR_f29 : AnsOk Try.prog 29 (f29_cOf R_f29)) (k : Nat) (K : Out → Option X)  (r1 : St → Option X) (v : Int × Int × Int × Int × Nat × Int × Nat × Int × Int × Bool × (List CV) × (List CV)) : loopB (f9_cx R_f29 hR_f29) k [.r, .l, .r, .b] (Try.f9.body.getD .skip) (retK (f9_cx R_f29 hR_f29) [] Try.f9.results.toList K) [] r1 (f9_S1 v) = f9_T1 R_f29 k (fun u => K (f9_out u))   (fun v => r1 (f9_S1 v)) v := by kernel_rfl
theorem f9_L1_it {X : Type} (R_f29 : f29_R) (hR_f29 : AnsOk Try.prog 29 (f29_cOf R_f29)) (k : Nat) (K : Out → Option X)  : (fun v => iter (loopB (f9_cx R_f29 hR_f29) k [.r, .l, .r, .b] (Try.f9.body.getD .skip) (retK (f9_cx R_f29 hR_f29) [] Try.f9.results.toList K) []) k (f9_S1 v)) = iterV (f9_L1 R_f29 k (fun u => K (f9_out u)) ) k :=
  iter_map (fun r1 v => (f9_L1_ev R_f29 hR_f29 k K  r1 v).trans rfl) k
def f9_T {X : Type} (R_f29 : f29_R) (k : Nat) (K : Int × Int × Int × Nat × Int × Nat × Int × Int × Bool × (List CV) × (List CV) → Option X) (loop1 : Int × Int × Int × Int × Nat × Int × Nat × Int × Int × Bool × (List CV) × (List CV) → Option X) (x0 : Int) (x1 : Int) (x2 : Nat) (x3 : Int) (x4 : Nat) (x5 : Int) (x6 : Int) (x7 : Bool) (x8 : List CV) (x9 : List CV) : Option X :=
loop1 (x1, 0, x0, x1, x2, x3, x4, x5, x6, x7, x8, x9)
/-- "(*outpost/part.Part).Clear" -/
def f9_A (R_f29 : f29_R) (k : Nat) : f9_R := fun X K x0 x1 x2 x3 x4 x5 x6 x7 x8 x9 => f9_T R_f29 k K (iterV (f9_L1 R_f29 k K) k) x0 x1 x2 x3 x4 x5 x6 x7 x8 x9
set_option maxRecDepth 100000 in
theorem f9_ev' {X : Type} (R_f29 : f29_R) (hR_f29 : AnsOk Try.prog 29 (f29_cOf R_f29)) (k : Nat) (K : Out → Option X) (x0 : Int) (x1 : Int) (x2 : Nat) (x3 : Int) (x4 : Nat) (x5 : Int) (x6 : Int) (x7 : Bool) (x8 : List CV) (x9 : List CV) : evFn (f9_cx R_f29 hR_f29) [] k Try.f9.ntmps Try.f9.results.toList (Try.f9.body.getD .skip) [(.ptr [1000] 0 0 0)] [([1000], (.obj [(.ptr [1100] 0 0 0), (.v (CV.int .i64 x0)), (.v (CV.int .i64 x1))])), ([1100], (.obj [(.osl [0, 1100] none 0 x2), (.v (CV.int .i64 x3)), (.osl [2, 1100] none 0 x4), (.v (CV.int .i64 x5)), (.v (CV.int .i64 x6)), (.v (CV.bool x7))])), ([0, 1100], (.row false none x8)), ([2, 1100], (.row false none x9))] K = f9_T R_f29 k (fun u => K (f9_out u)) (fun v => iter (loopB (f9_cx R_f29 hR_f29) k [.r, .l, .r, .b] (Try.f9.body.getD .skip) (retK (f9_cx R_f29 hR_f29) [] Try.f9.results.toList K) []) k (f9_S1 v)) x0 x1 x2 x3 x4 x5 x6 x7 x8 x9 := by kernel_rfl
theorem f9_ev {X : Type} (R_f29 : f29_R) (hR_f29 : AnsOk Try.prog 29 (f29_cOf R_f29)) (k : Nat) (K : Out → Option X) (x0 : Int) (x1 : Int) (x2 : Nat) (x3 : Int) (x4 : Nat) (x5 : Int) (x6 : Int) (x7 : Bool) (x8 : List CV) (x9 : List CV) : evFn (f9_cx R_f29 hR_f29) [] k Try.f9.ntmps Try.f9.results.toList (Try.f9.body.getD .skip) [(.ptr [1000] 0 0 0)] [([1000], (.obj [(.ptr [1100] 0 0 0), (.v (CV.int .i64 x0)), (.v (CV.int .i64 x1))])), ([1100], (.obj [(.osl [0, 1100] none 0 x2), (.v (CV.int .i64 x3)), (.osl [2, 1100] none 0 x4), (.v (CV.int .i64 x5)), (.v (CV.int .i64 x6)), (.v (CV.bool x7))])), ([0, 1100], (.row false none x8)), ([2, 1100], (.row false none x9))] K = f9_A R_f29 k X (fun u => K (f9_out u)) x0 x1 x2 x3 x4 x5 x6 x7 x8 x9 := (f9_ev' R_f29 hR_f29 k K x0 x1 x2 x3 x4 x5 x6 x7 x8 x9).trans (by rw [f9_L1_it R_f29 hR_f29 k K]; rfl)
theorem f9_okA (R_f29 : f29_R) (hR_f29 : AnsOk Try.prog 29 (f29_cOf R_f29)) (k : Nat) : AnsOk Try.prog 9 (f9_cOf (f9_A R_f29 k)) := by
  intro X xs ns K x h
  unfold f9_cOf at h ⊢
  split at h
  · exact ans_main S (f9_Cok R_f29 hR_f29) Try.func9 (ent_of Try.func9 (by kernel_rfl) rfl) rfl (fun X K => f9_ev R_f29 hR_f29 k K _ _ _ _ _ _ _ _ _ _) h
  · cases h
/-- "(*outpost/part.Part).Clear" -/
def f9 {X : Type} (k : Nat) (K : Int × Int × Int × Nat × Int × Nat × Int × Int × Bool × (List CV) × (List CV) → Option X) (x0 : Int) (x1 : Int) (x2 : Nat) (x3 : Int) (x4 : Nat) (x5 : Int) (x6 : Int) (x7 : Bool) (x8 : List CV) (x9 : List CV) : Option X := f9_A (fun X => @f29 X k) k X K x0 x1 x2 x3 x4 x5 x6 x7 x8 x9
theorem f9_ok (k : Nat) : AnsOk Try.prog 9 (f9_cOf (fun X => @f9 X k)) := f9_okA (fun X => @f29 X k) (f29_ok k) k
abbrev f33_R : Type 1 := (X : Type) → (Int × Nat × Int × Nat × Int × Int × Bool × (List CV) × (List CV) → Option X) → Int → Nat → Int → Nat → Int → Int → Bool → (List CV) → (List CV) → Option X
def f33_out (u : Int × Nat × Int × Nat × Int × Int × Bool × (List CV) × (List CV)) : Out := ⟨(.v (CV.int .i64 u.1)), [([1000], (.obj [(.osl [0, 1000] none 0 u.2.1), (.v (CV.int .i64 u.2.2.1)), (.osl [2, 1000] none 0 u.2.2.2.1), (.v (CV.int .i64 u.2.2.2.2.1)), (.v (CV.int .i64 u.2.2.2.2.2.1)), (.v (CV.bool u.2.2.2.2.2.2.1))])), ([0, 1000], (.row false none u.2.2.2.2.2.2.2.1)), ([2, 1000], (.row false none u.2.2.2.2.2.2.2.2))]⟩
def f33_cOf (R : f33_R) : FnC := fun X xs ns K => match xs, ns with
  | [(.ptr [1000] 0 0 0), (.v (CV.int .i64 x0))], [([1000], (.obj [(.osl [0, 1000] none 0 x1), (.v (CV.int .i64 x2)), (.osl [2, 1000] none 0 x3), (.v (CV.int .i64 x4)), (.v (CV.int .i64 x5)), (.v (CV.bool x6))])), ([0, 1000], (.row false none x7)), ([2, 1000], (.row false none x8))] => R X (fun u => K (f33_out u)) x0 x1 x2 x3 x4 x5 x6 x7 x8
  | _, _ => none
def f33_plan : Nat → Option (List Nat × List Wk)
  | 0 => some ([0, 1], [])
  | 1 => some ([0, 1], [])
  | 2 => some ([], [])
  | 3 => some ([0, 1], [])
  | _ => none
def f33_C : Fns := noC
theorem f33_Cok : CsOk Try.prog (f33_C) := noC_ok
def f33_cx : Cx := mkCx (tabOf rows) (f33_C) md (cmpIn cmps) f33_plan (f33_Cok)
def f33_T {X : Type} (k : Nat) (K : Int × Nat × Int × Nat × Int × Int × Bool × (List CV) × (List CV) → Option X)  (x0 : Int) (x1 : Nat) (x2 : Int) (x3 : Nat) (x4 : Int) (x5 : Int) (x6 : Bool) (x7 : List CV) (x8 : List CV) : Option X :=
(bif (decide (x0 < 0)) then
K (0, x1, x2, x3, x4, x5, x6, (List.take (0 + x1) x7), (List.take (0 + x3) x8))
else
(bif (decide (x0 ≥ (Nat.cast (x3) : Int))) then
K (0, x1, x2, x3, x4, x5, x6, (List.take (0 + x1) x7), (List.take (0 + x3) x8))
else
grd (decide (0 ≤ x0)) <|
grd (decide (x0 < (Nat.cast (x3) : Int))) <|
Option.bind (x8)[(0 + (Int.toNat x0))]? fun e1 =>
grd (CV.isI .i64 e1) <|
K ((CV.toI e1), x1, x2, x3, x4, x5, x6, (List.take (0 + x1) x7), (List.take (0 + x3) x8))))
/-- "(*outpost/flash.Flash).Wear" -/
def f33_A (k : Nat) : f33_R := fun X K x0 x1 x2 x3 x4 x5 x6 x7 x8 => f33_T k K  x0 x1 x2 x3 x4 x5 x6 x7 x8
set_option maxRecDepth 100000 in
theorem f33_ev' {X : Type} (k : Nat) (K : Out → Option X) (x0 : Int) (x1 : Nat) (x2 : Int) (x3 : Nat) (x4 : Int) (x5 : Int) (x6 : Bool) (x7 : List CV) (x8 : List CV) : evFn (f33_cx) [] k Try.f33.ntmps Try.f33.results.toList (Try.f33.body.getD .skip) [(.ptr [1000] 0 0 0), (.v (CV.int .i64 x0))] [([1000], (.obj [(.osl [0, 1000] none 0 x1), (.v (CV.int .i64 x2)), (.osl [2, 1000] none 0 x3), (.v (CV.int .i64 x4)), (.v (CV.int .i64 x5)), (.v (CV.bool x6))])), ([0, 1000], (.row false none x7)), ([2, 1000], (.row false none x8))] K = f33_T k (fun u => K (f33_out u)) x0 x1 x2 x3 x4 x5 x6 x7 x8 := by kernel_rfl
theorem f33_ev {X : Type} (k : Nat) (K : Out → Option X) (x0 : Int) (x1 : Nat) (x2 : Int) (x3 : Nat) (x4 : Int) (x5 : Int) (x6 : Bool) (x7 : List CV) (x8 : List CV) : evFn (f33_cx) [] k Try.f33.ntmps Try.f33.results.toList (Try.f33.body.getD .skip) [(.ptr [1000] 0 0 0), (.v (CV.int .i64 x0))] [([1000], (.obj [(.osl [0, 1000] none 0 x1), (.v (CV.int .i64 x2)), (.osl [2, 1000] none 0 x3), (.v (CV.int .i64 x4)), (.v (CV.int .i64 x5)), (.v (CV.bool x6))])), ([0, 1000], (.row false none x7)), ([2, 1000], (.row false none x8))] K = f33_A k X (fun u => K (f33_out u)) x0 x1 x2 x3 x4 x5 x6 x7 x8 := (f33_ev' k K x0 x1 x2 x3 x4 x5 x6 x7 x8).trans rfl
theorem f33_okA (k : Nat) : AnsOk Try.prog 33 (f33_cOf (f33_A k)) := by
  intro X xs ns K x h
  unfold f33_cOf at h ⊢
  split at h
  · exact ans_main S (f33_Cok) Try.func33 (ent_of Try.func33 (by kernel_rfl) rfl) rfl (fun X K => f33_ev k K _ _ _ _ _ _ _ _ _) h
  · cases h
/-- "(*outpost/flash.Flash).Wear" -/
def f33 {X : Type} (k : Nat) (K : Int × Nat × Int × Nat × Int × Int × Bool × (List CV) × (List CV) → Option X) (x0 : Int) (x1 : Nat) (x2 : Int) (x3 : Nat) (x4 : Int) (x5 : Int) (x6 : Bool) (x7 : List CV) (x8 : List CV) : Option X := f33_A k X K x0 x1 x2 x3 x4 x5 x6 x7 x8
theorem f33_ok (k : Nat) : AnsOk Try.prog 33 (f33_cOf (fun X => @f33 X k)) := f33_okA k
abbrev f22_R : Type 1 := (X : Type) → (Int × Int × Int × Nat × Int × Nat × Int × Int × Bool × (List CV) × (List CV) → Option X) → Int → Int → Nat → Int → Nat → Int → Int → Bool → (List CV) → (List CV) → Option X
def f22_out (u : Int × Int × Int × Nat × Int × Nat × Int × Int × Bool × (List CV) × (List CV)) : Out := ⟨(.v (CV.int .i64 u.1)), [([1000], (.obj [(.ptr [1100] 0 0 0), (.v (CV.int .i64 u.2.1)), (.v (CV.int .i64 u.2.2.1))])), ([1100], (.obj [(.osl [0, 1100] none 0 u.2.2.2.1), (.v (CV.int .i64 u.2.2.2.2.1)), (.osl [2, 1100] none 0 u.2.2.2.2.2.1), (.v (CV.int .i64 u.2.2.2.2.2.2.1)), (.v (CV.int .i64 u.2.2.2.2.2.2.2.1)), (.v (CV.bool u.2.2.2.2.2.2.2.2.1))])), ([0, 1100], (.row false none u.2.2.2.2.2.2.2.2.2.1)), ([2, 1100], (.row false none u.2.2.2.2.2.2.2.2.2.2))]⟩
def f22_cOf (R : f22_R) : FnC := fun X xs ns K => match xs, ns with
  | [(.ptr [1000] 0 0 0)], [([1000], (.obj [(.ptr [1100] 0 0 0), (.v (CV.int .i64 x0)), (.v (CV.int .i64 x1))])), ([1100], (.obj [(.osl [0, 1100] none 0 x2), (.v (CV.int .i64 x3)), (.osl [2, 1100] none 0 x4), (.v (CV.int .i64 x5)), (.v (CV.int .i64 x6)), (.v (CV.bool x7))])), ([0, 1100], (.row false none x8)), ([2, 1100], (.row false none x9))] => R X (fun u => K (f22_out u)) x0 x1 x2 x3 x4 x5 x6 x7 x8 x9
  | _, _ => none
def f22_plan : Nat → Option (List Nat × List Wk)
  | 0 => some ([0], [])
  | 1 => some ([0], [])
  | 2 => some ([0, 3], [])
  | 3 => some ([0, 3, 8, 9], [])
  | 4 => some ([0, 3, 8, 9], [])
  | 5 => some ([0, 3, 4, 8, 9], [])
  | 6 => some ([0, 3, 8, 9], [])
  | 7 => some ([3], [])
  | _ => none
def f22_C (R_f33 : f33_R) : Fns := (orC 33 (f33_cOf R_f33) noC)
theorem f22_Cok (R_f33 : f33_R) (hR_f33 : AnsOk Try.prog 33 (f33_cOf R_f33)) : CsOk Try.prog (f22_C R_f33) := (orC_ok hR_f33 noC_ok)
def f22_cx (R_f33 : f33_R) (hR_f33 : AnsOk Try.prog 33 (f33_cOf R_f33)) : Cx := mkCx (tabOf rows) (f22_C R_f33) md (cmpIn cmps) f22_plan (f22_Cok R_f33 hR_f33)
def f22_S1 (v : Int × Int × Int × Int × Int × Nat × Int × Nat × Int × Int × Bool × (List CV) × (List CV)) : St := ⟨[(.ptr [1000] 0 0 0), .undef, .undef, (.v (CV.int .i64 v.1)), .undef, .undef, .undef, .undef, (.v (CV.int .i64 v.2.1)), (.v (CV.int .i64 v.2.2.1)), .undef, .undef, .undef, .undef, .undef, .undef, .undef, .undef, .undef, .undef, .undef, .undef, .undef, .undef, .undef, .undef, .undef], [([1000], (.obj [(.ptr [1100] 0 0 0), (.v (CV.int .i64 v.2.2.2.1)), (.v (CV.int .i64 v.2.2.2.2.1))])), ([1100], (.obj [(.osl [0, 1100] none 0 v.2.2.2.2.2.1), (.v (CV.int .i64 v.2.2.2.2.2.2.1)), (.osl [2, 1100] none 0 v.2.2.2.2.2.2.2.1), (.v (CV.int .i64 v.2.2.2.2.2.2.2.2.1)), (.v (CV.int .i64 v.2.2.2.2.2.2.2.2.2.1)), (.v (CV.bool v.2.2.2.2.2.2.2.2.2.2.1))])), ([0, 1100], (.row false none v.2.2.2.2.2.2.2.2.2.2.2.1)), ([2, 1100], (.row false none v.2.2.2.2.2.2.2.2.2.2.2.2))]⟩
def f22_T1 {X : Type} (R_f33 : f33_R) (k : Nat) (K : Int × Int × Int × Nat × Int × Nat × Int × Int × Bool × (List CV) × (List CV) → Option X)   (rec1 : Int × Int × Int × Int × Int × Nat × Int × Nat × Int × Int × Bool × (List CV) × (List CV) → Option X) (v5_0 : Int × Int × Int × Int × Int × Nat × Int × Nat × Int × Int × Bool × (List CV) × (List CV)) : Option X :=
(bif (decide (v5_0.2.2.1 < v5_0.2.1)) then
R_f33 _ (fun u5 =>
rec1 ((if u5.1 > v5_0.1 then u5.1 else v5_0.1), v5_0.2.1, (IntKind.wrap .i64 (v5_0.2.2.1 + 1)), v5_0.2.2.2.1, v5_0.2.2.2.2.1, u5.2.1, u5.2.2.1, u5.2.2.2.1, u5.2.2.2.2.1, u5.2.2.2.2.2.1, u5.2.2.2.2.2.2.1, u5.2.2.2.2.2.2.2.1, u5.2.2.2.2.2.2.2.2)) ((IntKind.wrap .i64 (v5_0.2.2.2.1 + v5_0.2.2.1))) (v5_0.2.2.2.2.2.1) (v5_0.2.2.2.2.2.2.1) (v5_0.2.2.2.2.2.2.2.1) (v5_0.2.2.2.2.2.2.2.2.1) (v5_0.2.2.2.2.2.2.2.2.2.1) (v5_0.2.2.2.2.2.2.2.2.2.2.1) (v5_0.2.2.2.2.2.2.2.2.2.2.2.1) (v5_0.2.2.2.2.2.2.2.2.2.2.2.2)
else
K (v5_0.1, v5_0.2.2.2.1, v5_0.2.2.2.2.1, v5_0.2.2.2.2.2.1, v5_0.2.2.2.2.2.2.1, v5_0.2.2.2.2.2.2.2.1, v5_0.2.2.2.2.2.2.2.2.1, v5_0.2.2.2.2.2.2.2.2.2.1, v5_0.2.2.2.2.2.2.2.2.2.2.1, (List.take (0 + v5_0.2.2.2.2.2.1) v5_0.2.2.2.2.2.2.2.2.2.2.2.1), (List.take (0 + v5_0.2.2.2.2.2.2.2.1) v5_0.2.2.2.2.2.2.2.2.2.2.2.2)))
def f22_L1 {X : Type} (R_f33 : f33_R) (k : Nat) (K : Int × Int × Int × Nat × Int × Nat × Int × Int × Bool × (List CV) × (List CV) → Option X)  (rec1 : Int × Int × Int × Int × Int × Nat × Int × Nat × Int × Int × Bool × (List CV) × (List CV) → Option X) (v : Int × Int × Int × Int × Int × Nat × Int × Nat × Int × Int × Bool × (List CV) × (List CV)) : Option X := f22_T1 R_f33 k K   rec1 v
set_option maxRecDepth 100000 in
theorem f22_L1_ev {X : Type} (R_f33 : f33_R) (hR_f33 : AnsOk Try.prog 33 (f33_cOf R_f33)) (k : Nat) (K : Out → Option X)  (r1 : St → Option X) (v : Int × Int × Int × Int × Int × Nat × Int × Nat × Int × Int × Bool × (List CV) × (List CV)) : loopB (f22_cx R_f33 hR_f33) k [.r, .r, .l, .r, .b] (Try.f22.body.getD .skip) (retK (f22_cx R_f33 hR_f33) [] Try.f22.results.toList K) [] r1 (f22_S1 v) = f22_T1 R_f33 k (fun u => K (f22_out u))   (fun v => r1 (f22_S1 v)) v := by kernel_rfl
theorem f22_L1_it {X : Type} (R_f33 : f33_R) (hR_f33 : AnsOk Try.prog 33 (f33_cOf R_f33)) (k : Nat) (K : Out → Option X)  : (fun v => iter (loopB (f22_cx R_f33 hR_f33) k [.r, .r, .l, .r, .b] (Try.f22.body.getD .skip) (retK (f22_cx R_f33 hR_f33) [] Try.f22.results.toList K) []) k (f22_S1 v)) = iterV (f22_L1 R_f33 k (fun u => K (f22_out u)) ) k :=
  iter_map (fun r1 v => (f22_L1_ev R_f33 hR_f33 k K  r1 v).trans rfl) k
def f22_T {X : Type} (R_f33 : f33_R) (k : Nat) (K : Int × Int × Int × Nat × Int × Nat × Int × Int × Bool × (List CV) × (List CV) → Option X) (loop1 : Int × Int × Int × Int × Int × Nat × Int × Nat × Int × Int × Bool × (List CV) × (List CV) → Option X) (x0 : Int) (x1 : Int) (x2 : Nat) (x3 : Int) (x4 : Nat) (x5 : Int) (x6 : Int) (x7 : Bool) (x8 : List CV) (x9 : List CV) : Option X :=
loop1 (0, x1, 0, x0, x1, x2, x3, x4, x5, x6, x7, x8, x9)
/-- "(*outpost/part.Part).Wear" -/
def f22_A (R_f33 : f33_R) (k : Nat) : f22_R := fun X K x0 x1 x2 x3 x4 x5 x6 x7 x8 x9 => f22_T R_f33 k K (iterV (f22_L1 R_f33 k K) k) x0 x1 x2 x3 x4 x5 x6 x7 x8 x9
set_option maxRecDepth 100000 in
theorem f22_ev' {X : Type} (R_f33 : f33_R) (hR_f33 : AnsOk Try.prog 33 (f33_cOf R_f33)) (k : Nat) (K : Out → Option X) (x0 : Int) (x1 : Int) (x2 : Nat) (x3 : Int) (x4 : Nat) (x5 : Int) (x6 : Int) (x7 : Bool) (x8 : List CV) (x9 : List CV) : evFn (f22_cx R_f33 hR_f33) [] k Try.f22.ntmps Try.f22.results.toList (Try.f22.body.getD .skip) [(.ptr [1000] 0 0 0)] [([1000], (.obj [(.ptr [1100] 0 0 0), (.v (CV.int .i64 x0)), (.v (CV.int .i64 x1))])), ([1100], (.obj [(.osl [0, 1100] none 0 x2), (.v (CV.int .i64 x3)), (.osl [2, 1100] none 0 x4), (.v (CV.int .i64 x5)), (.v (CV.int .i64 x6)), (.v (CV.bool x7))])), ([0, 1100], (.row false none x8)), ([2, 1100], (.row false none x9))] K = f22_T R_f33 k (fun u => K (f22_out u)) (fun v => iter (loopB (f22_cx R_f33 hR_f33) k [.r, .r, .l, .r, .b] (Try.f22.body.getD .skip) (retK (f22_cx R_f33 hR_f33) [] Try.f22.results.toList K) []) k (f22_S1 v)) x0 x1 x2 x3 x4 x5 x6 x7 x8 x9 := by kernel_rfl
theorem f22_ev {X : Type} (R_f33 : f33_R) (hR_f33 : AnsOk Try.prog 33 (f33_cOf R_f33)) (k : Nat) (K : Out → Option X) (x0 : Int) (x1 : Int) (x2 : Nat) (x3 : Int) (x4 : Nat) (x5 : Int) (x6 : Int) (x7 : Bool) (x8 : List CV) (x9 : List CV) : evFn (f22_cx R_f33 hR_f33) [] k Try.f22.ntmps Try.f22.results.toList (Try.f22.body.getD .skip) [(.ptr [1000] 0 0 0)] [([1000], (.obj [(.ptr [1100] 0 0 0), (.v (CV.int .i64 x0)), (.v (CV.int .i64 x1))])), ([1100], (.obj [(.osl [0, 1100] none 0 x2), (.v (CV.int .i64 x3)), (.osl [2, 1100] none 0 x4), (.v (CV.int .i64 x5)), (.v (CV.int .i64 x6)), (.v (CV.bool x7))])), ([0, 1100], (.row false none x8)), ([2, 1100], (.row false none x9))] K = f22_A R_f33 k X (fun u => K (f22_out u)) x0 x1 x2 x3 x4 x5 x6 x7 x8 x9 := (f22_ev' R_f33 hR_f33 k K x0 x1 x2 x3 x4 x5 x6 x7 x8 x9).trans (by rw [f22_L1_it R_f33 hR_f33 k K]; rfl)
theorem f22_okA (R_f33 : f33_R) (hR_f33 : AnsOk Try.prog 33 (f33_cOf R_f33)) (k : Nat) : AnsOk Try.prog 22 (f22_cOf (f22_A R_f33 k)) := by
  intro X xs ns K x h
  unfold f22_cOf at h ⊢
  split at h
  · exact ans_main S (f22_Cok R_f33 hR_f33) Try.func22 (ent_of Try.func22 (by kernel_rfl) rfl) rfl (fun X K => f22_ev R_f33 hR_f33 k K _ _ _ _ _ _ _ _ _ _) h
  · cases h
/-- "(*outpost/part.Part).Wear" -/
def f22 {X : Type} (k : Nat) (K : Int × Int × Int × Nat × Int × Nat × Int × Int × Bool × (List CV) × (List CV) → Option X) (x0 : Int) (x1 : Int) (x2 : Nat) (x3 : Int) (x4 : Nat) (x5 : Int) (x6 : Int) (x7 : Bool) (x8 : List CV) (x9 : List CV) : Option X := f22_A (fun X => @f33 X k) k X K x0 x1 x2 x3 x4 x5 x6 x7 x8 x9
theorem f22_ok (k : Nat) : AnsOk Try.prog 22 (f22_cOf (fun X => @f22 X k)) := f22_okA (fun X => @f33 X k) (f33_ok k) k
abbrev f23_R : Type 1 := (X : Type) → (Int × Int × Nat × Int × Nat × Int × Int × Bool × (List CV) × (List CV) → Option X) → Int → Int → Nat → Int → Nat → Int → Int → Bool → (List CV) → (List CV) → Option X
def f23_out (u : Int × Int × Nat × Int × Nat × Int × Int × Bool × (List CV) × (List CV)) : Out := ⟨(.ptr [1100] 0 0 0), [([1000], (.obj [(.ptr [1100] 0 0 0), (.v (CV.int .i64 u.1)), (.v (CV.int .i64 u.2.1))])), ([1100], (.obj [(.osl [0, 1100] none 0 u.2.2.1), (.v (CV.int .i64 u.2.2.2.1)), (.osl [2, 1100] none 0 u.2.2.2.2.1), (.v (CV.int .i64 u.2.2.2.2.2.1)), (.v (CV.int .i64 u.2.2.2.2.2.2.1)), (.v (CV.bool u.2.2.2.2.2.2.2.1))])), ([0, 1100], (.row false none u.2.2.2.2.2.2.2.2.1)), ([2, 1100], (.row false none u.2.2.2.2.2.2.2.2.2))]⟩
def f23_cOf (R : f23_R) : FnC := fun X xs ns K => match xs, ns with
  | [(.ptr [1000] 0 0 0)], [([1000], (.obj [(.ptr [1100] 0 0 0), (.v (CV.int .i64 x0)), (.v (CV.int .i64 x1))])), ([1100], (.obj [(.osl [0, 1100] none 0 x2), (.v (CV.int .i64 x3)), (.osl [2, 1100] none 0 x4), (.v (CV.int .i64 x5)), (.v (CV.int .i64 x6)), (.v (CV.bool x7))])), ([0, 1100], (.row false none x8)), ([2, 1100], (.row false none x9))] => R X (fun u => K (f23_out u)) x0 x1 x2 x3 x4 x5 x6 x7 x8 x9
  | _, _ => none
def f23_plan : Nat → Option (List Nat × List Wk)
  | 0 => some ([0], [])
  | 1 => some ([0], [])
  | _ => none
def f23_C : Fns := noC
theorem f23_Cok : CsOk Try.prog (f23_C) := noC_ok
def f23_cx : Cx := mkCx (tabOf rows) (f23_C) md (cmpIn cmps) f23_plan (f23_Cok)
def f23_T {X : Type} (k : Nat) (K : Int × Int × Nat × Int × Nat × Int × Int × Bool × (List CV) × (List CV) → Option X)  (x0 : Int) (x1 : Int) (x2 : Nat) (x3 : Int) (x4 : Nat) (x5 : Int) (x6 : Int) (x7 : Bool) (x8 : List CV) (x9 : List CV) : Option X :=
K (x0, x1, x2, x3, x4, x5, x6, x7, (List.take (0 + x2) x8), (List.take (0 + x4) x9))
/-- "(*outpost/part.Part).Flash" -/
def f23_A (k : Nat) : f23_R := fun X K x0 x1 x2 x3 x4 x5 x6 x7 x8 x9 => f23_T k K  x0 x1 x2 x3 x4 x5 x6 x7 x8 x9
set_option maxRecDepth 100000 in
theorem f23_ev' {X : Type} (k : Nat) (K : Out → Option X) (x0 : Int) (x1 : Int) (x2 : Nat) (x3 : Int) (x4 : Nat) (x5 : Int) (x6 : Int) (x7 : Bool) (x8 : List CV) (x9 : List CV) : evFn (f23_cx) [] k Try.f23.ntmps Try.f23.results.toList (Try.f23.body.getD .skip) [(.ptr [1000] 0 0 0)] [([1000], (.obj [(.ptr [1100] 0 0 0), (.v (CV.int .i64 x0)), (.v (CV.int .i64 x1))])), ([1100], (.obj [(.osl [0, 1100] none 0 x2), (.v (CV.int .i64 x3)), (.osl [2, 1100] none 0 x4), (.v (CV.int .i64 x5)), (.v (CV.int .i64 x6)), (.v (CV.bool x7))])), ([0, 1100], (.row false none x8)), ([2, 1100], (.row false none x9))] K = f23_T k (fun u => K (f23_out u)) x0 x1 x2 x3 x4 x5 x6 x7 x8 x9 := by kernel_rfl
theorem f23_ev {X : Type} (k : Nat) (K : Out → Option X) (x0 : Int) (x1 : Int) (x2 : Nat) (x3 : Int) (x4 : Nat) (x5 : Int) (x6 : Int) (x7 : Bool) (x8 : List CV) (x9 : List CV) : evFn (f23_cx) [] k Try.f23.ntmps Try.f23.results.toList (Try.f23.body.getD .skip) [(.ptr [1000] 0 0 0)] [([1000], (.obj [(.ptr [1100] 0 0 0), (.v (CV.int .i64 x0)), (.v (CV.int .i64 x1))])), ([1100], (.obj [(.osl [0, 1100] none 0 x2), (.v (CV.int .i64 x3)), (.osl [2, 1100] none 0 x4), (.v (CV.int .i64 x5)), (.v (CV.int .i64 x6)), (.v (CV.bool x7))])), ([0, 1100], (.row false none x8)), ([2, 1100], (.row false none x9))] K = f23_A k X (fun u => K (f23_out u)) x0 x1 x2 x3 x4 x5 x6 x7 x8 x9 := (f23_ev' k K x0 x1 x2 x3 x4 x5 x6 x7 x8 x9).trans rfl
theorem f23_okA (k : Nat) : AnsOk Try.prog 23 (f23_cOf (f23_A k)) := by
  intro X xs ns K x h
  unfold f23_cOf at h ⊢
  split at h
  · exact ans_main S (f23_Cok) Try.func23 (ent_of Try.func23 (by kernel_rfl) rfl) rfl (fun X K => f23_ev k K _ _ _ _ _ _ _ _ _ _) h
  · cases h
/-- "(*outpost/part.Part).Flash" -/
def f23 {X : Type} (k : Nat) (K : Int × Int × Nat × Int × Nat × Int × Int × Bool × (List CV) × (List CV) → Option X) (x0 : Int) (x1 : Int) (x2 : Nat) (x3 : Int) (x4 : Nat) (x5 : Int) (x6 : Int) (x7 : Bool) (x8 : List CV) (x9 : List CV) : Option X := f23_A k X K x0 x1 x2 x3 x4 x5 x6 x7 x8 x9
theorem f23_ok (k : Nat) : AnsOk Try.prog 23 (f23_cOf (fun X => @f23 X k)) := f23_okA k
abbrev f5_R : Type 1 := (X : Type) → (Bool → Option X) → Option X
def f5_out (u : Bool) : Out := ⟨(.v (CV.bool u)), []⟩
def f5_cOf (R : f5_R) : FnC := fun X xs ns K => match xs, ns with
  | [], [] => R X (fun u => K (f5_out u)) 
  | _, _ => none
def f5_plan : Nat → Option (List Nat × List Wk)
  | 0 => some ([], [])
  | 1 => some ([], [])
  | 2 => some ([1], [])
  | 3 => some ([1, 2, 3], [])
  | 4 => some ([1, 2, 3, 5], [])
  | 5 => some ([], [])
  | 6 => some ([1, 2], [])
  | 7 => some ([1, 2, 6, 7], [])
  | 8 => some ([1, 2, 6, 7, 8, 9], [])
  | 9 => some ([1, 2, 6, 7, 8, 9, 10, 11], [])
  | 10 => some ([1, 2, 6, 7, 8, 9, 10, 11, 12], [])
  | 11 => some ([1, 2, 6, 7, 8, 9, 10, 11, 12, 14, 15], [])
  | _ => none
def f5_C (R_f6 : f6_R) (R_f7 : f7_R) (R_f13 : f13_R) (R_f8 : f8_R) (R_f20 : f20_R) (R_f21 : f21_R) (R_f12 : f12_R) (R_f10 : f10_R) (R_f9 : f9_R) (R_f22 : f22_R) (R_f23 : f23_R) : Fns := (orC 6 (f6_cOf R_f6) (orC 7 (f7_cOf R_f7) (orC 8 (f8_cOf R_f8) (orC 9 (f9_cOf R_f9) (orC 10 (f10_cOf R_f10) (orC 12 (f12_cOf R_f12) (orC 13 (f13_cOf R_f13) (orC 20 (f20_cOf R_f20) (orC 21 (f21_cOf R_f21) (orC 22 (f22_cOf R_f22) (orC 23 (f23_cOf R_f23) noC)))))))))))
theorem f5_Cok (R_f6 : f6_R) (R_f7 : f7_R) (R_f13 : f13_R) (R_f8 : f8_R) (R_f20 : f20_R) (R_f21 : f21_R) (R_f12 : f12_R) (R_f10 : f10_R) (R_f9 : f9_R) (R_f22 : f22_R) (R_f23 : f23_R) (hR_f6 : AnsOk Try.prog 6 (f6_cOf R_f6)) (hR_f7 : AnsOk Try.prog 7 (f7_cOf R_f7)) (hR_f13 : AnsOk Try.prog 13 (f13_cOf R_f13)) (hR_f8 : AnsOk Try.prog 8 (f8_cOf R_f8)) (hR_f20 : AnsOk Try.prog 20 (f20_cOf R_f20)) (hR_f21 : AnsOk Try.prog 21 (f21_cOf R_f21)) (hR_f12 : AnsOk Try.prog 12 (f12_cOf R_f12)) (hR_f10 : AnsOk Try.prog 10 (f10_cOf R_f10)) (hR_f9 : AnsOk Try.prog 9 (f9_cOf R_f9)) (hR_f22 : AnsOk Try.prog 22 (f22_cOf R_f22)) (hR_f23 : AnsOk Try.prog 23 (f23_cOf R_f23)) : CsOk Try.prog (f5_C R_f6 R_f7 R_f13 R_f8 R_f20 R_f21 R_f12 R_f10 R_f9 R_f22 R_f23) := (orC_ok hR_f6 (orC_ok hR_f7 (orC_ok hR_f8 (orC_ok hR_f9 (orC_ok hR_f10 (orC_ok hR_f12 (orC_ok hR_f13 (orC_ok hR_f20 (orC_ok hR_f21 (orC_ok hR_f22 (orC_ok hR_f23 noC_ok)))))))))))
def f5_cx (R_f6 : f6_R) (R_f7 : f7_R) (R_f13 : f13_R) (R_f8 : f8_R) (R_f20 : f20_R) (R_f21 : f21_R) (R_f12 : f12_R) (R_f10 : f10_R) (R_f9 : f9_R) (R_f22 : f22_R) (R_f23 : f23_R) (hR_f6 : AnsOk Try.prog 6 (f6_cOf R_f6)) (hR_f7 : AnsOk Try.prog 7 (f7_cOf R_f7)) (hR_f13 : AnsOk Try.prog 13 (f13_cOf R_f13)) (hR_f8 : AnsOk Try.prog 8 (f8_cOf R_f8)) (hR_f20 : AnsOk Try.prog 20 (f20_cOf R_f20)) (hR_f21 : AnsOk Try.prog 21 (f21_cOf R_f21)) (hR_f12 : AnsOk Try.prog 12 (f12_cOf R_f12)) (hR_f10 : AnsOk Try.prog 10 (f10_cOf R_f10)) (hR_f9 : AnsOk Try.prog 9 (f9_cOf R_f9)) (hR_f22 : AnsOk Try.prog 22 (f22_cOf R_f22)) (hR_f23 : AnsOk Try.prog 23 (f23_cOf R_f23)) : Cx := mkCx (tabOf rows) (f5_C R_f6 R_f7 R_f13 R_f8 R_f20 R_f21 R_f12 R_f10 R_f9 R_f22 R_f23) md (cmpIn cmps) f5_plan (f5_Cok R_f6 R_f7 R_f13 R_f8 R_f20 R_f21 R_f12 R_f10 R_f9 R_f22 R_f23 hR_f6 hR_f7 hR_f13 hR_f8 hR_f20 hR_f21 hR_f12 hR_f10 hR_f9 hR_f22 hR_f23)
def f5_T {X : Type} (R_f6 : f6_R) (R_f7 : f7_R) (R_f13 : f13_R) (R_f8 : f8_R) (R_f20 : f20_R) (R_f21 : f21_R) (R_f12 : f12_R) (R_f10 : f10_R) (R_f9 : f9_R) (R_f22 : f22_R) (R_f23 : f23_R) (k : Nat) (K : Bool → Option X)   : Option X :=
R_f6 _ (fun u1 =>
R_f7 _ (Sum.elim (fun u2 =>
R_f7 _ (Sum.elim (fun u3 =>
K (false))
(fun u4 =>
K (false))) (3) (2) (u2.1) (u2.2.1) (u2.2.2.1) (u2.2.2.2.1) (u2.2.2.2.2.1) (u2.2.2.2.2.2.1) (u2.2.2.2.2.2.2.1) (u2.2.2.2.2.2.2.2))
(fun u5 =>
R_f7 _ (Sum.elim (fun u6 =>
R_f13 _ (fun u10 =>
(bif (u10.1 != 32) then
K (false)
else
R_f8 _ (fun u11 =>
(bif (u11.1 != 1) then
K (false)
else
R_f8 _ (fun u12 =>
(bif (u12.1 != 0) then
K (false)
else
R_f20 _ (fun u13 =>
R_f21 _ (fun u14 =>
R_f12 _ (fun u15 =>
R_f12 _ (fun u16 =>
R_f10 _ (fun u17 =>
(bif (u13.2.1 == 0) then
grd (decide (0 < (Nat.cast (u13.1) : Int))) <|
Option.bind (u13.2.2.2.2.2.2.2.2.2.2)[0]? fun e18 =>
grd (CV.isI .u8 e18) <|
(bif ((CV.toI e18) == 7) then
(bif (u14.1 == 4) then
(bif (u14.2.1 == 0) then
(bif u15.1 then
(bif (u15.2.1 == 0) then
(bif (!u16.1) then
(bif (u17.2.1 == 0) then
grd (decide (0 < (Nat.cast (u17.1) : Int))) <|
Option.bind (u17.2.2.2.2.2.2.2.2.2.2.2.2)[0]? fun e19 =>
grd (CV.isI .u8 e19) <|
(bif ((CV.toI e19) == 7) then
R_f9 _ (fun u20 =>
(bif (u20.1 == 0) then
R_f22 _ (fun u21 =>
(bif (u21.1 == 1) then
R_f23 _ (fun u22 =>
K (true)) (u21.2.1) (u21.2.2.1) (u21.2.2.2.1) (u21.2.2.2.2.1) (u21.2.2.2.2.2.1) (u21.2.2.2.2.2.2.1) (u21.2.2.2.2.2.2.2.1) (u21.2.2.2.2.2.2.2.2.1) (u21.2.2.2.2.2.2.2.2.2.1) (u21.2.2.2.2.2.2.2.2.2.2)
else
K (false))) (u20.2.1) (u20.2.2.1) (u20.2.2.2.1) (u20.2.2.2.2.1) (u20.2.2.2.2.2.1) (u20.2.2.2.2.2.2.1) (u20.2.2.2.2.2.2.2.1) (u20.2.2.2.2.2.2.2.2.1) (u20.2.2.2.2.2.2.2.2.2.1) (u20.2.2.2.2.2.2.2.2.2.2)
else
K (false))) (u17.2.2.1) (u17.2.2.2.1) (u17.2.2.2.2.1) (u17.2.2.2.2.2.1) (u17.2.2.2.2.2.2.1) (u17.2.2.2.2.2.2.2.1) (u17.2.2.2.2.2.2.2.2.1) (u17.2.2.2.2.2.2.2.2.2.1) (u17.2.2.2.2.2.2.2.2.2.2.1) (u17.2.2.2.2.2.2.2.2.2.2.2.1)
else
K (false))
else
K (false))
else
K (false))
else
K (false))
else
K (false))
else
K (false))
else
K (false))
else
K (false))
else
K (false))) (3) (1) (u16.2.2.1) (u16.2.2.2.1) (u16.2.2.2.2.1) (u16.2.2.2.2.2.1) (u16.2.2.2.2.2.2.1) (u16.2.2.2.2.2.2.2.1) (u16.2.2.2.2.2.2.2.2.1) (u16.2.2.2.2.2.2.2.2.2.1) (u16.2.2.2.2.2.2.2.2.2.2.1) (u16.2.2.2.2.2.2.2.2.2.2.2)) (3) (1) (u15.2.2.1) (u15.2.2.2.1) (u15.2.2.2.2.1) (u15.2.2.2.2.2.1) (u15.2.2.2.2.2.2.1) (u15.2.2.2.2.2.2.2.1) (u15.2.2.2.2.2.2.2.2.1) (u15.2.2.2.2.2.2.2.2.2.1) (u15.2.2.2.2.2.2.2.2.2.2.1) (u15.2.2.2.2.2.2.2.2.2.2.2)) (0) (3) (u14.2.2.1) (u14.2.2.2.1) (u14.2.2.2.2.1) (u14.2.2.2.2.2.1) (u14.2.2.2.2.2.2.1) (u14.2.2.2.2.2.2.2.1) (u14.2.2.2.2.2.2.2.2.1) (u14.2.2.2.2.2.2.2.2.2.1) (u14.2.2.2.2.2.2.2.2.2.2.1) (u14.2.2.2.2.2.2.2.2.2.2.2)) (u12.2.1) (u12.2.2.1) (u13.2.2.1) (u13.2.2.2.1) (u13.2.2.2.2.1) (u13.2.2.2.2.2.1) (u13.2.2.2.2.2.2.1) (u13.2.2.2.2.2.2.2.1) (u13.2.2.2.2.2.2.2.2.1) (u13.2.2.2.2.2.2.2.2.2.1)) (19) (1) (u12.2.2.2.1) (u12.2.2.2.2.1) (u12.2.2.2.2.2.1) (u12.2.2.2.2.2.2.1) (u12.2.2.2.2.2.2.2.1) (u12.2.2.2.2.2.2.2.2.1) (u12.2.2.2.2.2.2.2.2.2.1) (u12.2.2.2.2.2.2.2.2.2.2))) (3) ((List.take 1 (List.drop 0 [(CV.int .u8 7)]))) (u11.2.1) (u11.2.2.1) (u11.2.2.2.1) (u11.2.2.2.2.1) (u11.2.2.2.2.2.1) (u11.2.2.2.2.2.2.1) (u11.2.2.2.2.2.2.2.1) (u11.2.2.2.2.2.2.2.2.1) (u11.2.2.2.2.2.2.2.2.2.1) (u11.2.2.2.2.2.2.2.2.2.2))) (30) ((List.take 3 (List.drop 0 [(CV.int .u8 1), (CV.int .u8 2), (CV.int .u8 3)]))) (u10.2.1) (u10.2.2.1) (u10.2.2.2.1) (u10.2.2.2.2.1) (u10.2.2.2.2.2.1) (u10.2.2.2.2.2.2.1) (u10.2.2.2.2.2.2.2.1) (u10.2.2.2.2.2.2.2.2.1) (u10.2.2.2.2.2.2.2.2.2.1) (u10.2.2.2.2.2.2.2.2.2.2))) (u5.2.2.2.2.2.2.2.2.1) (u5.2.2.2.2.2.2.2.2.2) (u6.1) (u6.2.1) (u6.2.2.1) (u6.2.2.2.1) (u6.2.2.2.2.1) (u6.2.2.2.2.2.1) (u6.2.2.2.2.2.2.1) (u6.2.2.2.2.2.2.2))
(fun u23 =>
K (false))) (3) (2) (u5.1) (u5.2.1) (u5.2.2.1) (u5.2.2.2.1) (u5.2.2.2.2.1) (u5.2.2.2.2.2.1) (u5.2.2.2.2.2.2.1) (u5.2.2.2.2.2.2.2.1))) (1) (2) (u1.1) (u1.2.1) (u1.2.2.1) (0) ((-1)) (false) (u1.2.2.2.1) (u1.2.2.2.2)) (4) (16)
/-- "outpost/outpostlaw04.alive" -/
def f5_A (R_f6 : f6_R) (R_f7 : f7_R) (R_f13 : f13_R) (R_f8 : f8_R) (R_f20 : f20_R) (R_f21 : f21_R) (R_f12 : f12_R) (R_f10 : f10_R) (R_f9 : f9_R) (R_f22 : f22_R) (R_f23 : f23_R) (k : Nat) : f5_R := fun X K  => f5_T R_f6 R_f7 R_f13 R_f8 R_f20 R_f21 R_f12 R_f10 R_f9 R_f22 R_f23 k K  
set_option maxRecDepth 100000 in
theorem f5_ev' {X : Type} (R_f6 : f6_R) (R_f7 : f7_R) (R_f13 : f13_R) (R_f8 : f8_R) (R_f20 : f20_R) (R_f21 : f21_R) (R_f12 : f12_R) (R_f10 : f10_R) (R_f9 : f9_R) (R_f22 : f22_R) (R_f23 : f23_R) (hR_f6 : AnsOk Try.prog 6 (f6_cOf R_f6)) (hR_f7 : AnsOk Try.prog 7 (f7_cOf R_f7)) (hR_f13 : AnsOk Try.prog 13 (f13_cOf R_f13)) (hR_f8 : AnsOk Try.prog 8 (f8_cOf R_f8)) (hR_f20 : AnsOk Try.prog 20 (f20_cOf R_f20)) (hR_f21 : AnsOk Try.prog 21 (f21_cOf R_f21)) (hR_f12 : AnsOk Try.prog 12 (f12_cOf R_f12)) (hR_f10 : AnsOk Try.prog 10 (f10_cOf R_f10)) (hR_f9 : AnsOk Try.prog 9 (f9_cOf R_f9)) (hR_f22 : AnsOk Try.prog 22 (f22_cOf R_f22)) (hR_f23 : AnsOk Try.prog 23 (f23_cOf R_f23)) (k : Nat) (K : Out → Option X)  : evFn (f5_cx R_f6 R_f7 R_f13 R_f8 R_f20 R_f21 R_f12 R_f10 R_f9 R_f22 R_f23 hR_f6 hR_f7 hR_f13 hR_f8 hR_f20 hR_f21 hR_f12 hR_f10 hR_f9 hR_f22 hR_f23) [] k Try.f5.ntmps Try.f5.results.toList (Try.f5.body.getD .skip) [] [] K = f5_T R_f6 R_f7 R_f13 R_f8 R_f20 R_f21 R_f12 R_f10 R_f9 R_f22 R_f23 k (fun u => K (f5_out u))  := by kernel_rfl
theorem f5_ev {X : Type} (R_f6 : f6_R) (R_f7 : f7_R) (R_f13 : f13_R) (R_f8 : f8_R) (R_f20 : f20_R) (R_f21 : f21_R) (R_f12 : f12_R) (R_f10 : f10_R) (R_f9 : f9_R) (R_f22 : f22_R) (R_f23 : f23_R) (hR_f6 : AnsOk Try.prog 6 (f6_cOf R_f6)) (hR_f7 : AnsOk Try.prog 7 (f7_cOf R_f7)) (hR_f13 : AnsOk Try.prog 13 (f13_cOf R_f13)) (hR_f8 : AnsOk Try.prog 8 (f8_cOf R_f8)) (hR_f20 : AnsOk Try.prog 20 (f20_cOf R_f20)) (hR_f21 : AnsOk Try.prog 21 (f21_cOf R_f21)) (hR_f12 : AnsOk Try.prog 12 (f12_cOf R_f12)) (hR_f10 : AnsOk Try.prog 10 (f10_cOf R_f10)) (hR_f9 : AnsOk Try.prog 9 (f9_cOf R_f9)) (hR_f22 : AnsOk Try.prog 22 (f22_cOf R_f22)) (hR_f23 : AnsOk Try.prog 23 (f23_cOf R_f23)) (k : Nat) (K : Out → Option X)  : evFn (f5_cx R_f6 R_f7 R_f13 R_f8 R_f20 R_f21 R_f12 R_f10 R_f9 R_f22 R_f23 hR_f6 hR_f7 hR_f13 hR_f8 hR_f20 hR_f21 hR_f12 hR_f10 hR_f9 hR_f22 hR_f23) [] k Try.f5.ntmps Try.f5.results.toList (Try.f5.body.getD .skip) [] [] K = f5_A R_f6 R_f7 R_f13 R_f8 R_f20 R_f21 R_f12 R_f10 R_f9 R_f22 R_f23 k X (fun u => K (f5_out u))  := (f5_ev' R_f6 R_f7 R_f13 R_f8 R_f20 R_f21 R_f12 R_f10 R_f9 R_f22 R_f23 hR_f6 hR_f7 hR_f13 hR_f8 hR_f20 hR_f21 hR_f12 hR_f10 hR_f9 hR_f22 hR_f23 k K ).trans rfl
theorem f5_okA (R_f6 : f6_R) (R_f7 : f7_R) (R_f13 : f13_R) (R_f8 : f8_R) (R_f20 : f20_R) (R_f21 : f21_R) (R_f12 : f12_R) (R_f10 : f10_R) (R_f9 : f9_R) (R_f22 : f22_R) (R_f23 : f23_R) (hR_f6 : AnsOk Try.prog 6 (f6_cOf R_f6)) (hR_f7 : AnsOk Try.prog 7 (f7_cOf R_f7)) (hR_f13 : AnsOk Try.prog 13 (f13_cOf R_f13)) (hR_f8 : AnsOk Try.prog 8 (f8_cOf R_f8)) (hR_f20 : AnsOk Try.prog 20 (f20_cOf R_f20)) (hR_f21 : AnsOk Try.prog 21 (f21_cOf R_f21)) (hR_f12 : AnsOk Try.prog 12 (f12_cOf R_f12)) (hR_f10 : AnsOk Try.prog 10 (f10_cOf R_f10)) (hR_f9 : AnsOk Try.prog 9 (f9_cOf R_f9)) (hR_f22 : AnsOk Try.prog 22 (f22_cOf R_f22)) (hR_f23 : AnsOk Try.prog 23 (f23_cOf R_f23)) (k : Nat) : AnsOk Try.prog 5 (f5_cOf (f5_A R_f6 R_f7 R_f13 R_f8 R_f20 R_f21 R_f12 R_f10 R_f9 R_f22 R_f23 k)) := by
  intro X xs ns K x h
  unfold f5_cOf at h ⊢
  split at h
  · exact ans_main S (f5_Cok R_f6 R_f7 R_f13 R_f8 R_f20 R_f21 R_f12 R_f10 R_f9 R_f22 R_f23 hR_f6 hR_f7 hR_f13 hR_f8 hR_f20 hR_f21 hR_f12 hR_f10 hR_f9 hR_f22 hR_f23) Try.func5 (ent_of Try.func5 (by kernel_rfl) rfl) rfl (fun X K => f5_ev R_f6 R_f7 R_f13 R_f8 R_f20 R_f21 R_f12 R_f10 R_f9 R_f22 R_f23 hR_f6 hR_f7 hR_f13 hR_f8 hR_f20 hR_f21 hR_f12 hR_f10 hR_f9 hR_f22 hR_f23 k K ) h
  · cases h
/-- "outpost/outpostlaw04.alive" -/
def f5 {X : Type} (k : Nat) (K : Bool → Option X)  : Option X := f5_A (fun X => @f6 X k) (fun X => @f7 X k) (fun X => @f13 X k) (fun X => @f8 X k) (fun X => @f20 X k) (fun X => @f21 X k) (fun X => @f12 X k) (fun X => @f10 X k) (fun X => @f9 X k) (fun X => @f22 X k) (fun X => @f23 X k) k X K 
theorem f5_ok (k : Nat) : AnsOk Try.prog 5 (f5_cOf (fun X => @f5 X k)) := f5_okA (fun X => @f6 X k) (fun X => @f7 X k) (fun X => @f13 X k) (fun X => @f8 X k) (fun X => @f20 X k) (fun X => @f21 X k) (fun X => @f12 X k) (fun X => @f10 X k) (fun X => @f9 X k) (fun X => @f22 X k) (fun X => @f23 X k) (f6_ok k) (f7_ok k) (f13_ok k) (f8_ok k) (f20_ok k) (f21_ok k) (f12_ok k) (f10_ok k) (f9_ok k) (f22_ok k) (f23_ok k) k
abbrev f11_R : Type 1 := (X : Type) → (Bool → Option X) → (List CV) → (List CV) → Option X
def f11_out (u : Bool) : Out := ⟨(.v (CV.bool u)), []⟩
def f11_cOf (R : f11_R) : FnC := fun X xs ns K => match xs, ns with
  | [(.sl false none x0), (.sl false none x1)], [] => R X (fun u => K (f11_out u)) x0 x1
  | _, _ => none
def f11_plan : Nat → Option (List Nat × List Wk)
  | 0 => some ([0, 1], [])
  | 1 => some ([0, 1], [])
  | 2 => some ([], [])
  | 3 => some ([0, 1], [])
  | 4 => some ([0, 1, 5], [])
  | 5 => some ([0, 1, 5], [])
  | 6 => some ([0, 1, 5], [])
  | 7 => some ([], [])
  | 8 => some ([], [])
  | _ => none
def f11_C : Fns := noC
theorem f11_Cok : CsOk Try.prog (f11_C) := noC_ok
def f11_cx : Cx := mkCx (tabOf rows) (f11_C) md (cmpIn cmps) f11_plan (f11_Cok)
def f11_S1 (v : (List CV) × (List CV) × Int) : St := ⟨[(.sl false none v.1), (.sl false none v.2.1), .undef, .undef, .undef, (.v (CV.int .i64 v.2.2)), .undef, .undef, .undef, .undef, .undef, .undef, .undef, .undef, .undef, .undef, .undef, .undef, .undef, .undef, .undef, .undef, .undef, .undef, .undef, .undef], []⟩
def f11_T1 {X : Type} (k : Nat) (K : Bool → Option X)   (rec1 : (List CV) × (List CV) × Int → Option X) (v5_0 : (List CV) × (List CV) × Int) : Option X :=
(bif (decide (v5_0.2.2 < (Nat.cast ((List.length v5_0.1)) : Int))) then
grd (decide (0 ≤ v5_0.2.2)) <|
Option.bind (v5_0.1)[(Int.toNat v5_0.2.2)]? fun e8 =>
grd (CV.isI .u8 e8) <|
grd (decide (0 ≤ v5_0.2.2)) <|
Option.bind (v5_0.2.1)[(Int.toNat v5_0.2.2)]? fun e9 =>
grd (CV.isI .u8 e9) <|
(bif ((CV.toI e8) != (CV.toI e9)) then
K (false)
else
rec1 (v5_0.1, v5_0.2.1, (IntKind.wrap .i64 (v5_0.2.2 + 1))))
else
K (true))
def f11_L1 {X : Type} (k : Nat) (K : Bool → Option X)  (rec1 : (List CV) × (List CV) × Int → Option X) (v : (List CV) × (List CV) × Int) : Option X := f11_T1 k K   rec1 v
set_option maxRecDepth 100000 in
theorem f11_L1_ev {X : Type} (k : Nat) (K : Out → Option X)  (r1 : St → Option X) (v : (List CV) × (List CV) × Int) : loopB (f11_cx) k [.r, .r, .l, .r, .b] (Try.f11.body.getD .skip) (retK (f11_cx) [] Try.f11.results.toList K) [] r1 (f11_S1 v) = f11_T1 k (fun u => K (f11_out u))   (fun v => r1 (f11_S1 v)) v := by kernel_rfl
theorem f11_L1_it {X : Type} (k : Nat) (K : Out → Option X)  : (fun v => iter (loopB (f11_cx) k [.r, .r, .l, .r, .b] (Try.f11.body.getD .skip) (retK (f11_cx) [] Try.f11.results.toList K) []) k (f11_S1 v)) = iterV (f11_L1 k (fun u => K (f11_out u)) ) k :=
  iter_map (fun r1 v => (f11_L1_ev k K  r1 v).trans rfl) k
def f11_T {X : Type} (k : Nat) (K : Bool → Option X) (loop1 : (List CV) × (List CV) × Int → Option X) (x0 : List CV) (x1 : List CV) : Option X :=
(bif ((Nat.cast ((List.length x0)) : Int) != (Nat.cast ((List.length x1)) : Int)) then
K (false)
else
loop1 (x0, x1, 0))
/-- "outpost/outpostref01.Same" -/
def f11_A (k : Nat) : f11_R := fun X K x0 x1 => f11_T k K (iterV (f11_L1 k K) k) x0 x1
set_option maxRecDepth 100000 in
theorem f11_ev' {X : Type} (k : Nat) (K : Out → Option X) (x0 : List CV) (x1 : List CV) : evFn (f11_cx) [] k Try.f11.ntmps Try.f11.results.toList (Try.f11.body.getD .skip) [(.sl false none x0), (.sl false none x1)] [] K = f11_T k (fun u => K (f11_out u)) (fun v => iter (loopB (f11_cx) k [.r, .r, .l, .r, .b] (Try.f11.body.getD .skip) (retK (f11_cx) [] Try.f11.results.toList K) []) k (f11_S1 v)) x0 x1 := by kernel_rfl
theorem f11_ev {X : Type} (k : Nat) (K : Out → Option X) (x0 : List CV) (x1 : List CV) : evFn (f11_cx) [] k Try.f11.ntmps Try.f11.results.toList (Try.f11.body.getD .skip) [(.sl false none x0), (.sl false none x1)] [] K = f11_A k X (fun u => K (f11_out u)) x0 x1 := (f11_ev' k K x0 x1).trans (by rw [f11_L1_it k K]; rfl)
theorem f11_okA (k : Nat) : AnsOk Try.prog 11 (f11_cOf (f11_A k)) := by
  intro X xs ns K x h
  unfold f11_cOf at h ⊢
  split at h
  · exact ans_main S (f11_Cok) Try.func11 (ent_of Try.func11 (by kernel_rfl) rfl) rfl (fun X K => f11_ev k K _ _) h
  · cases h
/-- "outpost/outpostref01.Same" -/
def f11 {X : Type} (k : Nat) (K : Bool → Option X) (x0 : List CV) (x1 : List CV) : Option X := f11_A k X K x0 x1
theorem f11_ok (k : Nat) : AnsOk Try.prog 11 (f11_cOf (fun X => @f11 X k)) := f11_okA k
abbrev f3_R : Type 1 := (X : Type) → (Bool → Option X) → Int → (List CV) → (List CV) → Bool → Option X
def f3_out (u : Bool) : Out := ⟨(.v (CV.bool u)), []⟩
def f3_cOf (R : f3_R) : FnC := fun X xs ns K => match xs, ns with
  | [(.v (CV.int .i64 x0)), (.sl true none x1), (.sl true none x2), (.v (CV.bool x3))], [] => R X (fun u => K (f3_out u)) x0 x1 x2 x3
  | _, _ => none
def f3_plan : Nat → Option (List Nat × List Wk)
  | 0 => some ([0, 1, 2, 3], [])
  | 1 => some ([0, 1, 2, 3], [])
  | 2 => some ([], [])
  | 3 => some ([0, 1, 2, 3], [])
  | 4 => some ([], [])
  | 5 => some ([0, 1, 2, 3], [])
  | 6 => some ([1, 2, 3, 9], [])
  | 7 => some ([1, 2, 3, 9, 10, 11], [])
  | 8 => some ([1, 2, 3, 10, 11, 12, 13], [])
  | 9 => some ([], [])
  | 10 => some ([1, 2, 3, 10, 12], [])
  | 11 => some ([], [])
  | 12 => some ([1, 2, 3, 10, 12], [])
  | 13 => some ([1, 2, 3, 10, 14, 15], [])
  | 14 => some ([1, 2, 3, 10, 14, 15, 16, 17], [])
  | 15 => some ([], [])
  | 16 => some ([1, 3, 10, 16], [])
  | 17 => some ([1, 3, 16, 18, 19], [])
  | _ => none
def f3_C (R_f5 : f5_R) (R_f6 : f6_R) (R_f7 : f7_R) (R_f8 : f8_R) (R_f9 : f9_R) (R_f10 : f10_R) (R_f11 : f11_R) (R_f13 : f13_R) (R_f12 : f12_R) : Fns := (orC 5 (f5_cOf R_f5) (orC 6 (f6_cOf R_f6) (orC 7 (f7_cOf R_f7) (orC 8 (f8_cOf R_f8) (orC 9 (f9_cOf R_f9) (orC 10 (f10_cOf R_f10) (orC 11 (f11_cOf R_f11) (orC 12 (f12_cOf R_f12) (orC 13 (f13_cOf R_f13) noC)))))))))
theorem f3_Cok (R_f5 : f5_R) (R_f6 : f6_R) (R_f7 : f7_R) (R_f8 : f8_R) (R_f9 : f9_R) (R_f10 : f10_R) (R_f11 : f11_R) (R_f13 : f13_R) (R_f12 : f12_R) (hR_f5 : AnsOk Try.prog 5 (f5_cOf R_f5)) (hR_f6 : AnsOk Try.prog 6 (f6_cOf R_f6)) (hR_f7 : AnsOk Try.prog 7 (f7_cOf R_f7)) (hR_f8 : AnsOk Try.prog 8 (f8_cOf R_f8)) (hR_f9 : AnsOk Try.prog 9 (f9_cOf R_f9)) (hR_f10 : AnsOk Try.prog 10 (f10_cOf R_f10)) (hR_f11 : AnsOk Try.prog 11 (f11_cOf R_f11)) (hR_f13 : AnsOk Try.prog 13 (f13_cOf R_f13)) (hR_f12 : AnsOk Try.prog 12 (f12_cOf R_f12)) : CsOk Try.prog (f3_C R_f5 R_f6 R_f7 R_f8 R_f9 R_f10 R_f11 R_f13 R_f12) := (orC_ok hR_f5 (orC_ok hR_f6 (orC_ok hR_f7 (orC_ok hR_f8 (orC_ok hR_f9 (orC_ok hR_f10 (orC_ok hR_f11 (orC_ok hR_f12 (orC_ok hR_f13 noC_ok)))))))))
def f3_cx (R_f5 : f5_R) (R_f6 : f6_R) (R_f7 : f7_R) (R_f8 : f8_R) (R_f9 : f9_R) (R_f10 : f10_R) (R_f11 : f11_R) (R_f13 : f13_R) (R_f12 : f12_R) (hR_f5 : AnsOk Try.prog 5 (f5_cOf R_f5)) (hR_f6 : AnsOk Try.prog 6 (f6_cOf R_f6)) (hR_f7 : AnsOk Try.prog 7 (f7_cOf R_f7)) (hR_f8 : AnsOk Try.prog 8 (f8_cOf R_f8)) (hR_f9 : AnsOk Try.prog 9 (f9_cOf R_f9)) (hR_f10 : AnsOk Try.prog 10 (f10_cOf R_f10)) (hR_f11 : AnsOk Try.prog 11 (f11_cOf R_f11)) (hR_f13 : AnsOk Try.prog 13 (f13_cOf R_f13)) (hR_f12 : AnsOk Try.prog 12 (f12_cOf R_f12)) : Cx := mkCx (tabOf rows) (f3_C R_f5 R_f6 R_f7 R_f8 R_f9 R_f10 R_f11 R_f13 R_f12) md (cmpIn cmps) f3_plan (f3_Cok R_f5 R_f6 R_f7 R_f8 R_f9 R_f10 R_f11 R_f13 R_f12 hR_f5 hR_f6 hR_f7 hR_f8 hR_f9 hR_f10 hR_f11 hR_f13 hR_f12)
def f3_J1 {X : Type} (R_f5 : f5_R) (R_f6 : f6_R) (R_f7 : f7_R) (R_f8 : f8_R) (R_f9 : f9_R) (R_f10 : f10_R) (R_f11 : f11_R) (R_f13 : f13_R) (R_f12 : f12_R) (k : Nat) (K : Bool → Option X) (u13 : Int × Int × Int × Nat × Int × Nat × Int × Int × Bool × (List CV) × (List CV)) (x1 : List CV) (x2 : List CV) (x3 : Bool) (v15 : Nat × Int × Nat × Int × Int × Bool × (List CV) × (List CV) × Int × Int) : Option X :=
R_f10 _ (fun u16 =>
R_f10 _ (fun u17 =>
(bif (u16.2.1 != 0) then
K (false)
else
(bif (u17.2.1 != 0) then
K (false)
else
R_f11 _ (fun u19 =>
(bif (!u19) then
K (false)
else
R_f13 _ (fun u20 =>
R_f12 _ (fun u21 =>
(bif (u21.2.1 == 0) then
(bif x3 then
(bif u21.1 then
K (true)
else
(bif (!x3) then
R_f11 _ (fun u22 =>
K (u22)) ((List.take u17.1 (List.drop 0 u17.2.2.2.2.2.2.2.2.2.2.2.2))) (x1)
else
K (false)))
else
(bif (!x3) then
R_f11 _ (fun u23 =>
K (u23)) ((List.take u17.1 (List.drop 0 u17.2.2.2.2.2.2.2.2.2.2.2.2))) (x1)
else
K (false)))
else
K (false))) (0) (u20.1) (u20.2.1) (u20.2.2.1) (u20.2.2.2.1) (u20.2.2.2.2.1) (u20.2.2.2.2.2.1) (u20.2.2.2.2.2.2.1) (u20.2.2.2.2.2.2.2.1) (u20.2.2.2.2.2.2.2.2.1) (u20.2.2.2.2.2.2.2.2.2.1) (u20.2.2.2.2.2.2.2.2.2.2)) (u17.2.2.1) (u17.2.2.2.1) (u17.2.2.2.2.1) (u17.2.2.2.2.2.1) (u17.2.2.2.2.2.2.1) (u17.2.2.2.2.2.2.2.1) (u17.2.2.2.2.2.2.2.2.1) (u17.2.2.2.2.2.2.2.2.2.1) (u17.2.2.2.2.2.2.2.2.2.2.1) (u17.2.2.2.2.2.2.2.2.2.2.2.1))) ((List.take u16.1 (List.drop 0 u16.2.2.2.2.2.2.2.2.2.2.2.2))) (x2)))) (0) ((Nat.cast ((List.length x1)) : Int)) (v15.2.2.2.2.2.2.2.2.1) (v15.2.2.2.2.2.2.2.2.2) (u16.2.2.2.2.1) (u16.2.2.2.2.2.1) (u16.2.2.2.2.2.2.1) (u16.2.2.2.2.2.2.2.1) (u16.2.2.2.2.2.2.2.2.1) (u16.2.2.2.2.2.2.2.2.2.1) (u16.2.2.2.2.2.2.2.2.2.2.1) (u16.2.2.2.2.2.2.2.2.2.2.2.1)) (0) ((Nat.cast ((List.length x2)) : Int)) (u13.2.1) (u13.2.2.1) (v15.1) (v15.2.1) (v15.2.2.1) (v15.2.2.2.1) (v15.2.2.2.2.1) (v15.2.2.2.2.2.1) (v15.2.2.2.2.2.2.1) (v15.2.2.2.2.2.2.2.1)
def f3_T {X : Type} (R_f5 : f5_R) (R_f6 : f6_R) (R_f7 : f7_R) (R_f8 : f8_R) (R_f9 : f9_R) (R_f10 : f10_R) (R_f11 : f11_R) (R_f13 : f13_R) (R_f12 : f12_R) (k : Nat) (K : Bool → Option X)  (x0 : Int) (x1 : List CV) (x2 : List CV) (x3 : Bool) : Option X :=
R_f5 _ (fun u2 =>
(bif (!u2) then
K (false)
else
(bif (decide (x0 > 64)) then
K (true)
else
(bif (decide ((Nat.cast ((List.length x1)) : Int) > 32)) then
K (true)
else
(bif (decide ((Nat.cast ((List.length x2)) : Int) > 32)) then
K (true)
else
R_f6 _ (fun u3 =>
R_f7 _ (Sum.elim (fun u4 =>
R_f7 _ (Sum.elim (fun u5 =>
K (false))
(fun u6 =>
K (false))) (2) (3) (u4.1) (u4.2.1) (u4.2.2.1) (u4.2.2.2.1) (u4.2.2.2.2.1) (u4.2.2.2.2.2.1) (u4.2.2.2.2.2.2.1) (u4.2.2.2.2.2.2.2))
(fun u7 =>
R_f7 _ (Sum.elim (fun u8 =>
K (false))
(fun u9 =>
R_f8 _ (fun u12 =>
(bif (u12.1 != 0) then
K (false)
else
R_f8 _ (fun u13 =>
(bif (u13.1 != 0) then
K (false)
else
(bif x3 then
R_f9 _ (fun u24 =>
(bif (u24.1 != 0) then
K (false)
else
f3_J1 R_f5 R_f6 R_f7 R_f8 R_f9 R_f10 R_f11 R_f13 R_f12 k K u13 x1 x2 x3 (u24.2.2.2.1, u24.2.2.2.2.1, u24.2.2.2.2.2.1, u24.2.2.2.2.2.2.1, u24.2.2.2.2.2.2.2.1, u24.2.2.2.2.2.2.2.2.1, u24.2.2.2.2.2.2.2.2.2.1, u24.2.2.2.2.2.2.2.2.2.2, u24.2.1, u24.2.2.1))) (u12.2.1) (u12.2.2.1) (u13.2.2.2.1) (u13.2.2.2.2.1) (u13.2.2.2.2.2.1) (u13.2.2.2.2.2.2.1) (u13.2.2.2.2.2.2.2.1) (u13.2.2.2.2.2.2.2.2.1) (u13.2.2.2.2.2.2.2.2.2.1) (u13.2.2.2.2.2.2.2.2.2.2)
else
f3_J1 R_f5 R_f6 R_f7 R_f8 R_f9 R_f10 R_f11 R_f13 R_f12 k K u13 x1 x2 x3 (u13.2.2.2.1, u13.2.2.2.2.1, u13.2.2.2.2.2.1, u13.2.2.2.2.2.2.1, u13.2.2.2.2.2.2.2.1, u13.2.2.2.2.2.2.2.2.1, u13.2.2.2.2.2.2.2.2.2.1, u13.2.2.2.2.2.2.2.2.2.2, u12.2.1, u12.2.2.1)))) (0) (x2) (u9.2.2.2.2.2.2.2.2.1) (u9.2.2.2.2.2.2.2.2.2) (u12.2.2.2.1) (u12.2.2.2.2.1) (u12.2.2.2.2.2.1) (u12.2.2.2.2.2.2.1) (u12.2.2.2.2.2.2.2.1) (u12.2.2.2.2.2.2.2.2.1) (u12.2.2.2.2.2.2.2.2.2.1) (u12.2.2.2.2.2.2.2.2.2.2))) (0) (x1) (u7.2.2.2.2.2.2.2.2.1) (u7.2.2.2.2.2.2.2.2.2) (u9.1) (u9.2.1) (u9.2.2.1) (u9.2.2.2.1) (u9.2.2.2.2.1) (u9.2.2.2.2.2.1) (u9.2.2.2.2.2.2.1) (u9.2.2.2.2.2.2.2.1))) (2) (3) (u7.1) (u7.2.1) (u7.2.2.1) (u7.2.2.2.1) (u7.2.2.2.2.1) (u7.2.2.2.2.2.1) (u7.2.2.2.2.2.2.1) (u7.2.2.2.2.2.2.2.1))) (0) (2) (u3.1) (u3.2.1) (u3.2.2.1) (0) ((-1)) (false) (u3.2.2.2.1) (u3.2.2.2.2)) (6) (x0)))))) 
/-- "outpost/outpostlaw04.PartApart" -/
def f3_A (R_f5 : f5_R) (R_f6 : f6_R) (R_f7 : f7_R) (R_f8 : f8_R) (R_f9 : f9_R) (R_f10 : f10_R) (R_f11 : f11_R) (R_f13 : f13_R) (R_f12 : f12_R) (k : Nat) : f3_R := fun X K x0 x1 x2 x3 => f3_T R_f5 R_f6 R_f7 R_f8 R_f9 R_f10 R_f11 R_f13 R_f12 k K  x0 x1 x2 x3
set_option maxRecDepth 100000 in
theorem f3_ev' {X : Type} (R_f5 : f5_R) (R_f6 : f6_R) (R_f7 : f7_R) (R_f8 : f8_R) (R_f9 : f9_R) (R_f10 : f10_R) (R_f11 : f11_R) (R_f13 : f13_R) (R_f12 : f12_R) (hR_f5 : AnsOk Try.prog 5 (f5_cOf R_f5)) (hR_f6 : AnsOk Try.prog 6 (f6_cOf R_f6)) (hR_f7 : AnsOk Try.prog 7 (f7_cOf R_f7)) (hR_f8 : AnsOk Try.prog 8 (f8_cOf R_f8)) (hR_f9 : AnsOk Try.prog 9 (f9_cOf R_f9)) (hR_f10 : AnsOk Try.prog 10 (f10_cOf R_f10)) (hR_f11 : AnsOk Try.prog 11 (f11_cOf R_f11)) (hR_f13 : AnsOk Try.prog 13 (f13_cOf R_f13)) (hR_f12 : AnsOk Try.prog 12 (f12_cOf R_f12)) (k : Nat) (K : Out → Option X) (x0 : Int) (x1 : List CV) (x2 : List CV) (x3 : Bool) : evFn (f3_cx R_f5 R_f6 R_f7 R_f8 R_f9 R_f10 R_f11 R_f13 R_f12 hR_f5 hR_f6 hR_f7 hR_f8 hR_f9 hR_f10 hR_f11 hR_f13 hR_f12) [] k Try.f3.ntmps Try.f3.results.toList (Try.f3.body.getD .skip) [(.v (CV.int .i64 x0)), (.sl true none x1), (.sl true none x2), (.v (CV.bool x3))] [] K = f3_T R_f5 R_f6 R_f7 R_f8 R_f9 R_f10 R_f11 R_f13 R_f12 k (fun u => K (f3_out u)) x0 x1 x2 x3 := by kernel_rfl
theorem f3_ev {X : Type} (R_f5 : f5_R) (R_f6 : f6_R) (R_f7 : f7_R) (R_f8 : f8_R) (R_f9 : f9_R) (R_f10 : f10_R) (R_f11 : f11_R) (R_f13 : f13_R) (R_f12 : f12_R) (hR_f5 : AnsOk Try.prog 5 (f5_cOf R_f5)) (hR_f6 : AnsOk Try.prog 6 (f6_cOf R_f6)) (hR_f7 : AnsOk Try.prog 7 (f7_cOf R_f7)) (hR_f8 : AnsOk Try.prog 8 (f8_cOf R_f8)) (hR_f9 : AnsOk Try.prog 9 (f9_cOf R_f9)) (hR_f10 : AnsOk Try.prog 10 (f10_cOf R_f10)) (hR_f11 : AnsOk Try.prog 11 (f11_cOf R_f11)) (hR_f13 : AnsOk Try.prog 13 (f13_cOf R_f13)) (hR_f12 : AnsOk Try.prog 12 (f12_cOf R_f12)) (k : Nat) (K : Out → Option X) (x0 : Int) (x1 : List CV) (x2 : List CV) (x3 : Bool) : evFn (f3_cx R_f5 R_f6 R_f7 R_f8 R_f9 R_f10 R_f11 R_f13 R_f12 hR_f5 hR_f6 hR_f7 hR_f8 hR_f9 hR_f10 hR_f11 hR_f13 hR_f12) [] k Try.f3.ntmps Try.f3.results.toList (Try.f3.body.getD .skip) [(.v (CV.int .i64 x0)), (.sl true none x1), (.sl true none x2), (.v (CV.bool x3))] [] K = f3_A R_f5 R_f6 R_f7 R_f8 R_f9 R_f10 R_f11 R_f13 R_f12 k X (fun u => K (f3_out u)) x0 x1 x2 x3 := (f3_ev' R_f5 R_f6 R_f7 R_f8 R_f9 R_f10 R_f11 R_f13 R_f12 hR_f5 hR_f6 hR_f7 hR_f8 hR_f9 hR_f10 hR_f11 hR_f13 hR_f12 k K x0 x1 x2 x3).trans rfl
theorem f3_okA (R_f5 : f5_R) (R_f6 : f6_R) (R_f7 : f7_R) (R_f8 : f8_R) (R_f9 : f9_R) (R_f10 : f10_R) (R_f11 : f11_R) (R_f13 : f13_R) (R_f12 : f12_R) (hR_f5 : AnsOk Try.prog 5 (f5_cOf R_f5)) (hR_f6 : AnsOk Try.prog 6 (f6_cOf R_f6)) (hR_f7 : AnsOk Try.prog 7 (f7_cOf R_f7)) (hR_f8 : AnsOk Try.prog 8 (f8_cOf R_f8)) (hR_f9 : AnsOk Try.prog 9 (f9_cOf R_f9)) (hR_f10 : AnsOk Try.prog 10 (f10_cOf R_f10)) (hR_f11 : AnsOk Try.prog 11 (f11_cOf R_f11)) (hR_f13 : AnsOk Try.prog 13 (f13_cOf R_f13)) (hR_f12 : AnsOk Try.prog 12 (f12_cOf R_f12)) (k : Nat) : AnsOk Try.prog 3 (f3_cOf (f3_A R_f5 R_f6 R_f7 R_f8 R_f9 R_f10 R_f11 R_f13 R_f12 k)) := by
  intro X xs ns K x h
  unfold f3_cOf at h ⊢
  split at h
  · exact ans_main S (f3_Cok R_f5 R_f6 R_f7 R_f8 R_f9 R_f10 R_f11 R_f13 R_f12 hR_f5 hR_f6 hR_f7 hR_f8 hR_f9 hR_f10 hR_f11 hR_f13 hR_f12) Try.func3 (ent_of Try.func3 (by kernel_rfl) rfl) rfl (fun X K => f3_ev R_f5 R_f6 R_f7 R_f8 R_f9 R_f10 R_f11 R_f13 R_f12 hR_f5 hR_f6 hR_f7 hR_f8 hR_f9 hR_f10 hR_f11 hR_f13 hR_f12 k K _ _ _ _) h
  · cases h
/-- "outpost/outpostlaw04.PartApart" -/
def f3 {X : Type} (k : Nat) (K : Bool → Option X) (x0 : Int) (x1 : List CV) (x2 : List CV) (x3 : Bool) : Option X := f3_A (fun X => @f5 X k) (fun X => @f6 X k) (fun X => @f7 X k) (fun X => @f8 X k) (fun X => @f9 X k) (fun X => @f10 X k) (fun X => @f11 X k) (fun X => @f13 X k) (fun X => @f12 X k) k X K x0 x1 x2 x3
theorem f3_ok (k : Nat) : AnsOk Try.prog 3 (f3_cOf (fun X => @f3 X k)) := f3_okA (fun X => @f5 X k) (fun X => @f6 X k) (fun X => @f7 X k) (fun X => @f8 X k) (fun X => @f9 X k) (fun X => @f10 X k) (fun X => @f11 X k) (fun X => @f13 X k) (fun X => @f12 X k) (f5_ok k) (f6_ok k) (f7_ok k) (f8_ok k) (f9_ok k) (f10_ok k) (f11_ok k) (f13_ok k) (f12_ok k) k
abbrev f14_R : Type 1 := (X : Type) → (Bool → Option X) → (List CV) → Option X
def f14_out (u : Bool) : Out := ⟨(.v (CV.bool u)), []⟩
def f14_cOf (R : f14_R) : FnC := fun X xs ns K => match xs, ns with
  | [(.sl false (some 4) x0)], [] => R X (fun u => K (f14_out u)) x0
  | _, _ => none
def f14_plan : Nat → Option (List Nat × List Wk)
  | 0 => some ([0], [])
  | 1 => some ([0], [])
  | 2 => some ([0, 3], [])
  | 3 => some ([0, 3, 6, 7, 8], [])
  | 4 => some ([0, 3, 6, 7, 8], [])
  | 5 => some ([0, 3, 5, 6, 7, 8], [])
  | 6 => some ([], [])
  | 7 => some ([0, 3, 5, 6, 7, 8], [])
  | 8 => some ([0, 3, 6, 7, 8], [])
  | 9 => some ([0], [])
  | _ => none
def f14_C : Fns := noC
theorem f14_Cok : CsOk Try.prog (f14_C) := noC_ok
def f14_cx : Cx := mkCx (tabOf rows) (f14_C) md (cmpIn cmps) f14_plan (f14_Cok)
def f14_S1 (v : (List CV) × Int × (List CV) × Int × Int) : St := ⟨[(.sl false (some 4) v.1), .undef, .undef, (.v (CV.int .i64 v.2.1)), .undef, .undef, (.sl false (some 4) v.2.2.1), (.v (CV.int .i64 v.2.2.2.1)), (.v (CV.int .i64 v.2.2.2.2)), .undef, .undef, .undef, .undef, .undef, .undef, .undef, .undef, .undef, .undef, .undef, .undef, .undef, .undef, .undef, .undef, .undef, .undef], []⟩
def f14_T1 {X : Type} (k : Nat) (K : Bool → Option X)   (rec1 : (List CV) × Int × (List CV) × Int × Int → Option X) (v5_0 : (List CV) × Int × (List CV) × Int × Int) : Option X :=
(bif (decide (v5_0.2.2.2.2 < v5_0.2.2.2.1)) then
grd (decide (0 ≤ v5_0.2.2.2.2)) <|
Option.bind (v5_0.2.2.1)[(Int.toNat v5_0.2.2.2.2)]? fun e5 =>
grd (CV.isA 4 e5) <|
grd (CV.isI .i64 (CV.cellD 0 e5)) <|
grd (CV.isI .i64 (CV.cellD 1 e5)) <|
grd (CV.isI .i64 (CV.cellD 2 e5)) <|
grd (CV.isL none (CV.cellD 3 e5)) <|
(bif (decide ((Nat.cast ((List.length (CV.toL (CV.cellD 3 e5)))) : Int) > (IntKind.wrap .i64 (3000 - v5_0.2.1)))) then
K (false)
else
rec1 (v5_0.1, (IntKind.wrap .i64 (v5_0.2.1 + (Nat.cast ((List.length (CV.toL (CV.cellD 3 e5)))) : Int))), v5_0.2.2.1, v5_0.2.2.2.1, (IntKind.wrap .i64 (v5_0.2.2.2.2 + 1))))
else
K ((decide ((Nat.cast ((List.length v5_0.1)) : Int) ≤ 30))))
def f14_L1 {X : Type} (k : Nat) (K : Bool → Option X)  (rec1 : (List CV) × Int × (List CV) × Int × Int → Option X) (v : (List CV) × Int × (List CV) × Int × Int) : Option X := f14_T1 k K   rec1 v
set_option maxRecDepth 100000 in
theorem f14_L1_ev {X : Type} (k : Nat) (K : Out → Option X)  (r1 : St → Option X) (v : (List CV) × Int × (List CV) × Int × Int) : loopB (f14_cx) k [.r, .r, .l, .r, .b] (Try.f14.body.getD .skip) (retK (f14_cx) [] Try.f14.results.toList K) [] r1 (f14_S1 v) = f14_T1 k (fun u => K (f14_out u))   (fun v => r1 (f14_S1 v)) v := by kernel_rfl
theorem f14_L1_it {X : Type} (k : Nat) (K : Out → Option X)  : (fun v => iter (loopB (f14_cx) k [.r, .r, .l, .r, .b] (Try.f14.body.getD .skip) (retK (f14_cx) [] Try.f14.results.toList K) []) k (f14_S1 v)) = iterV (f14_L1 k (fun u => K (f14_out u)) ) k :=
  iter_map (fun r1 v => (f14_L1_ev k K  r1 v).trans rfl) k
def f14_T {X : Type} (k : Nat) (K : Bool → Option X) (loop1 : (List CV) × Int × (List CV) × Int × Int → Option X) (x0 : List CV) : Option X :=
loop1 (x0, 0, x0, (Nat.cast ((List.length x0)) : Int), 0)
/-- "outpost/outpostlaw04.small" -/
def f14_A (k : Nat) : f14_R := fun X K x0 => f14_T k K (iterV (f14_L1 k K) k) x0
set_option maxRecDepth 100000 in
theorem f14_ev' {X : Type} (k : Nat) (K : Out → Option X) (x0 : List CV) : evFn (f14_cx) [] k Try.f14.ntmps Try.f14.results.toList (Try.f14.body.getD .skip) [(.sl false (some 4) x0)] [] K = f14_T k (fun u => K (f14_out u)) (fun v => iter (loopB (f14_cx) k [.r, .r, .l, .r, .b] (Try.f14.body.getD .skip) (retK (f14_cx) [] Try.f14.results.toList K) []) k (f14_S1 v)) x0 := by kernel_rfl
theorem f14_ev {X : Type} (k : Nat) (K : Out → Option X) (x0 : List CV) : evFn (f14_cx) [] k Try.f14.ntmps Try.f14.results.toList (Try.f14.body.getD .skip) [(.sl false (some 4) x0)] [] K = f14_A k X (fun u => K (f14_out u)) x0 := (f14_ev' k K x0).trans (by rw [f14_L1_it k K]; rfl)
theorem f14_okA (k : Nat) : AnsOk Try.prog 14 (f14_cOf (f14_A k)) := by
  intro X xs ns K x h
  unfold f14_cOf at h ⊢
  split at h
  · exact ans_main S (f14_Cok) Try.func14 (ent_of Try.func14 (by kernel_rfl) rfl) rfl (fun X K => f14_ev k K _) h
  · cases h
/-- "outpost/outpostlaw04.small" -/
def f14 {X : Type} (k : Nat) (K : Bool → Option X) (x0 : List CV) : Option X := f14_A k X K x0
theorem f14_ok (k : Nat) : AnsOk Try.prog 14 (f14_cOf (fun X => @f14 X k)) := f14_okA k
abbrev f18_R : Type 1 := (X : Type) → (Nat × Int × Nat × Int × (List CV) × (List CV) → Option X) → Nat → Int → Nat → Int → Int → Bool → (List CV) → (List CV) → Option X
def f18_out (u : Nat × Int × Nat × Int × (List CV) × (List CV)) : Out := ⟨(.tup []), [([1000], (.obj [(.osl [0, 1000] none 0 u.1), (.v (CV.int .i64 u.2.1)), (.osl [2, 1000] none 0 u.2.2.1), (.v (CV.int .i64 u.2.2.2.1)), (.v (CV.int .i64 (-1))), (.v (CV.bool false))])), ([0, 1000], (.row false none u.2.2.2.2.1)), ([2, 1000], (.row false none u.2.2.2.2.2))]⟩
def f18_cOf (R : f18_R) : FnC := fun X xs ns K => match xs, ns with
  | [(.ptr [1000] 0 0 0)], [([1000], (.obj [(.osl [0, 1000] none 0 x0), (.v (CV.int .i64 x1)), (.osl [2, 1000] none 0 x2), (.v (CV.int .i64 x3)), (.v (CV.int .i64 x4)), (.v (CV.bool x5))])), ([0, 1000], (.row false none x6)), ([2, 1000], (.row false none x7))] => R X (fun u => K (f18_out u)) x0 x1 x2 x3 x4 x5 x6 x7
  | _, _ => none
def f18_plan : Nat → Option (List Nat × List Wk)
  | 0 => some ([0], [])
  | _ => none
def f18_C : Fns := noC
theorem f18_Cok : CsOk Try.prog (f18_C) := noC_ok
def f18_cx : Cx := mkCx (tabOf rows) (f18_C) md (cmpIn cmps) f18_plan (f18_Cok)
def f18_T {X : Type} (k : Nat) (K : Nat × Int × Nat × Int × (List CV) × (List CV) → Option X)  (x0 : Nat) (x1 : Int) (x2 : Nat) (x3 : Int) (x4 : Int) (x5 : Bool) (x6 : List CV) (x7 : List CV) : Option X :=
K (x0, x1, x2, x3, (List.take (0 + x0) x6), (List.take (0 + x2) x7))
/-- "(*outpost/flash.Flash).Restore" -/
def f18_A (k : Nat) : f18_R := fun X K x0 x1 x2 x3 x4 x5 x6 x7 => f18_T k K  x0 x1 x2 x3 x4 x5 x6 x7
set_option maxRecDepth 100000 in
theorem f18_ev' {X : Type} (k : Nat) (K : Out → Option X) (x0 : Nat) (x1 : Int) (x2 : Nat) (x3 : Int) (x4 : Int) (x5 : Bool) (x6 : List CV) (x7 : List CV) : evFn (f18_cx) [] k Try.f18.ntmps Try.f18.results.toList (Try.f18.body.getD .skip) [(.ptr [1000] 0 0 0)] [([1000], (.obj [(.osl [0, 1000] none 0 x0), (.v (CV.int .i64 x1)), (.osl [2, 1000] none 0 x2), (.v (CV.int .i64 x3)), (.v (CV.int .i64 x4)), (.v (CV.bool x5))])), ([0, 1000], (.row false none x6)), ([2, 1000], (.row false none x7))] K = f18_T k (fun u => K (f18_out u)) x0 x1 x2 x3 x4 x5 x6 x7 := by kernel_rfl
theorem f18_ev {X : Type} (k : Nat) (K : Out → Option X) (x0 : Nat) (x1 : Int) (x2 : Nat) (x3 : Int) (x4 : Int) (x5 : Bool) (x6 : List CV) (x7 : List CV) : evFn (f18_cx) [] k Try.f18.ntmps Try.f18.results.toList (Try.f18.body.getD .skip) [(.ptr [1000] 0 0 0)] [([1000], (.obj [(.osl [0, 1000] none 0 x0), (.v (CV.int .i64 x1)), (.osl [2, 1000] none 0 x2), (.v (CV.int .i64 x3)), (.v (CV.int .i64 x4)), (.v (CV.bool x5))])), ([0, 1000], (.row false none x6)), ([2, 1000], (.row false none x7))] K = f18_A k X (fun u => K (f18_out u)) x0 x1 x2 x3 x4 x5 x6 x7 := (f18_ev' k K x0 x1 x2 x3 x4 x5 x6 x7).trans rfl
theorem f18_okA (k : Nat) : AnsOk Try.prog 18 (f18_cOf (f18_A k)) := by
  intro X xs ns K x h
  unfold f18_cOf at h ⊢
  split at h
  · exact ans_main S (f18_Cok) Try.func18 (ent_of Try.func18 (by kernel_rfl) rfl) rfl (fun X K => f18_ev k K _ _ _ _ _ _ _ _) h
  · cases h
/-- "(*outpost/flash.Flash).Restore" -/
def f18 {X : Type} (k : Nat) (K : Nat × Int × Nat × Int × (List CV) × (List CV) → Option X) (x0 : Nat) (x1 : Int) (x2 : Nat) (x3 : Int) (x4 : Int) (x5 : Bool) (x6 : List CV) (x7 : List CV) : Option X := f18_A k X K x0 x1 x2 x3 x4 x5 x6 x7
theorem f18_ok (k : Nat) : AnsOk Try.prog 18 (f18_cOf (fun X => @f18 X k)) := f18_okA k
abbrev f15_R : Type 1 := (X : Type) → (Nat × Int × Nat × Int × (List CV) × (List CV) → Option X) → (List CV) → Nat → Int → Nat → Int → Int → Bool → (List CV) → (List CV) → Option X
def f15_out (u : Nat × Int × Nat × Int × (List CV) × (List CV)) : Out := ⟨(.tup []), [([1000], (.obj [(.osl [0, 1000] none 0 u.1), (.v (CV.int .i64 u.2.1)), (.osl [2, 1000] none 0 u.2.2.1), (.v (CV.int .i64 u.2.2.2.1)), (.v (CV.int .i64 (-1))), (.v (CV.bool false))])), ([0, 1000], (.row false none u.2.2.2.2.1)), ([2, 1000], (.row false none u.2.2.2.2.2))]⟩
def f15_cOf (R : f15_R) : FnC := fun X xs ns K => match xs, ns with
  | [(.ptr [1000] 0 0 0), (.sl false none x0)], [([1000], (.obj [(.osl [0, 1000] none 0 x1), (.v (CV.int .i64 x2)), (.osl [2, 1000] none 0 x3), (.v (CV.int .i64 x4)), (.v (CV.int .i64 x5)), (.v (CV.bool x6))])), ([0, 1000], (.row false none x7)), ([2, 1000], (.row false none x8))] => R X (fun u => K (f15_out u)) x0 x1 x2 x3 x4 x5 x6 x7 x8
  | _, _ => none
def f15_plan : Nat → Option (List Nat × List Wk)
  | 0 => some ([0, 1], [])
  | 1 => some ([0], [])
  | _ => none
def f15_C (R_f18 : f18_R) : Fns := (orC 18 (f18_cOf R_f18) noC)
theorem f15_Cok (R_f18 : f18_R) (hR_f18 : AnsOk Try.prog 18 (f18_cOf R_f18)) : CsOk Try.prog (f15_C R_f18) := (orC_ok hR_f18 noC_ok)
def f15_cx (R_f18 : f18_R) (hR_f18 : AnsOk Try.prog 18 (f18_cOf R_f18)) : Cx := mkCx (tabOf rows) (f15_C R_f18) md (cmpIn cmps) f15_plan (f15_Cok R_f18 hR_f18)
def f15_T {X : Type} (R_f18 : f18_R) (k : Nat) (K : Nat × Int × Nat × Int × (List CV) × (List CV) → Option X)  (x0 : List CV) (x1 : Nat) (x2 : Int) (x3 : Nat) (x4 : Int) (x5 : Int) (x6 : Bool) (x7 : List CV) (x8 : List CV) : Option X :=
grd (decide ((0 + x1) ≤ (List.length x7))) <|
R_f18 _ (fun u1 =>
K (u1.1, u1.2.1, u1.2.2.1, u1.2.2.2.1, (List.take (0 + u1.1) u1.2.2.2.2.1), (List.take (0 + u1.2.2.1) u1.2.2.2.2.2))) (x1) (x2) (x3) (x4) (x5) (x6) (((List.take 0 x7) ++ (List.take (min (List.length x0) x1) x0) ++ (List.drop (0 + (min (List.length x0) x1)) x7))) (x8)
/-- "(*outpost/flash.Flash).Load" -/
def f15_A (R_f18 : f18_R) (k : Nat) : f15_R := fun X K x0 x1 x2 x3 x4 x5 x6 x7 x8 => f15_T R_f18 k K  x0 x1 x2 x3 x4 x5 x6 x7 x8
set_option maxRecDepth 100000 in
theorem f15_ev' {X : Type} (R_f18 : f18_R) (hR_f18 : AnsOk Try.prog 18 (f18_cOf R_f18)) (k : Nat) (K : Out → Option X) (x0 : List CV) (x1 : Nat) (x2 : Int) (x3 : Nat) (x4 : Int) (x5 : Int) (x6 : Bool) (x7 : List CV) (x8 : List CV) : evFn (f15_cx R_f18 hR_f18) [] k Try.f15.ntmps Try.f15.results.toList (Try.f15.body.getD .skip) [(.ptr [1000] 0 0 0), (.sl false none x0)] [([1000], (.obj [(.osl [0, 1000] none 0 x1), (.v (CV.int .i64 x2)), (.osl [2, 1000] none 0 x3), (.v (CV.int .i64 x4)), (.v (CV.int .i64 x5)), (.v (CV.bool x6))])), ([0, 1000], (.row false none x7)), ([2, 1000], (.row false none x8))] K = f15_T R_f18 k (fun u => K (f15_out u)) x0 x1 x2 x3 x4 x5 x6 x7 x8 := by kernel_rfl
theorem f15_ev {X : Type} (R_f18 : f18_R) (hR_f18 : AnsOk Try.prog 18 (f18_cOf R_f18)) (k : Nat) (K : Out → Option X) (x0 : List CV) (x1 : Nat) (x2 : Int) (x3 : Nat) (x4 : Int) (x5 : Int) (x6 : Bool) (x7 : List CV) (x8 : List CV) : evFn (f15_cx R_f18 hR_f18) [] k Try.f15.ntmps Try.f15.results.toList (Try.f15.body.getD .skip) [(.ptr [1000] 0 0 0), (.sl false none x0)] [([1000], (.obj [(.osl [0, 1000] none 0 x1), (.v (CV.int .i64 x2)), (.osl [2, 1000] none 0 x3), (.v (CV.int .i64 x4)), (.v (CV.int .i64 x5)), (.v (CV.bool x6))])), ([0, 1000], (.row false none x7)), ([2, 1000], (.row false none x8))] K = f15_A R_f18 k X (fun u => K (f15_out u)) x0 x1 x2 x3 x4 x5 x6 x7 x8 := (f15_ev' R_f18 hR_f18 k K x0 x1 x2 x3 x4 x5 x6 x7 x8).trans rfl
theorem f15_okA (R_f18 : f18_R) (hR_f18 : AnsOk Try.prog 18 (f18_cOf R_f18)) (k : Nat) : AnsOk Try.prog 15 (f15_cOf (f15_A R_f18 k)) := by
  intro X xs ns K x h
  unfold f15_cOf at h ⊢
  split at h
  · exact ans_main S (f15_Cok R_f18 hR_f18) Try.func15 (ent_of Try.func15 (by kernel_rfl) rfl) rfl (fun X K => f15_ev R_f18 hR_f18 k K _ _ _ _ _ _ _ _ _) h
  · cases h
/-- "(*outpost/flash.Flash).Load" -/
def f15 {X : Type} (k : Nat) (K : Nat × Int × Nat × Int × (List CV) × (List CV) → Option X) (x0 : List CV) (x1 : Nat) (x2 : Int) (x3 : Nat) (x4 : Int) (x5 : Int) (x6 : Bool) (x7 : List CV) (x8 : List CV) : Option X := f15_A (fun X => @f18 X k) k X K x0 x1 x2 x3 x4 x5 x6 x7 x8
theorem f15_ok (k : Nat) : AnsOk Try.prog 15 (f15_cOf (fun X => @f15 X k)) := f15_okA (fun X => @f18 X k) (f18_ok k) k
abbrev f16_R : Type 1 := (X : Type) → (Nat × Nat × Int × Nat × Int × Int × Bool × (List CV) × (List CV) × (List CV) → Option X) → Nat → Int → Nat → Int → Int → Bool → (List CV) → (List CV) → Option X
def f16_out (u : Nat × Nat × Int × Nat × Int × Int × Bool × (List CV) × (List CV) × (List CV)) : Out := ⟨(.osl [2000] none 0 u.1), [([1000], (.obj [(.osl [0, 1000] none 0 u.2.1), (.v (CV.int .i64 u.2.2.1)), (.osl [2, 1000] none 0 u.2.2.2.1), (.v (CV.int .i64 u.2.2.2.2.1)), (.v (CV.int .i64 u.2.2.2.2.2.1)), (.v (CV.bool u.2.2.2.2.2.2.1))])), ([0, 1000], (.row false none u.2.2.2.2.2.2.2.1)), ([2, 1000], (.row false none u.2.2.2.2.2.2.2.2.1)), ([2000], (.row false none u.2.2.2.2.2.2.2.2.2))]⟩
def f16_cOf (R : f16_R) : FnC := fun X xs ns K => match xs, ns with
  | [(.ptr [1000] 0 0 0)], [([1000], (.obj [(.osl [0, 1000] none 0 x0), (.v (CV.int .i64 x1)), (.osl [2, 1000] none 0 x2), (.v (CV.int .i64 x3)), (.v (CV.int .i64 x4)), (.v (CV.bool x5))])), ([0, 1000], (.row false none x6)), ([2, 1000], (.row false none x7))] => R X (fun u => K (f16_out u)) x0 x1 x2 x3 x4 x5 x6 x7
  | _, _ => none
def f16_plan : Nat → Option (List Nat × List Wk)
  | 0 => some ([0], [])
  | 1 => some ([0], [])
  | _ => none
def f16_C (R_f31 : f31_R) : Fns := (orC 31 (f31_cOf R_f31) noC)
theorem f16_Cok (R_f31 : f31_R) (hR_f31 : AnsOk Try.prog 31 (f31_cOf R_f31)) : CsOk Try.prog (f16_C R_f31) := (orC_ok hR_f31 noC_ok)
def f16_cx (R_f31 : f31_R) (hR_f31 : AnsOk Try.prog 31 (f31_cOf R_f31)) : Cx := mkCx (tabOf rows) (f16_C R_f31) md (cmpIn cmps) f16_plan (f16_Cok R_f31 hR_f31)
def f16_T {X : Type} (R_f31 : f31_R) (k : Nat) (K : Nat × Nat × Int × Nat × Int × Int × Bool × (List CV) × (List CV) × (List CV) → Option X)  (x0 : Nat) (x1 : Int) (x2 : Nat) (x3 : Int) (x4 : Int) (x5 : Bool) (x6 : List CV) (x7 : List CV) : Option X :=
R_f31 _ (fun u1 =>
K ((List.length u1), x0, x1, x2, x3, x4, x5, (List.take (0 + x0) x6), (List.take (0 + x2) x7), (List.take (0 + (List.length u1)) u1))) ((List.take x0 (List.drop 0 x6)))
/-- "(*outpost/flash.Flash).Image" -/
def f16_A (R_f31 : f31_R) (k : Nat) : f16_R := fun X K x0 x1 x2 x3 x4 x5 x6 x7 => f16_T R_f31 k K  x0 x1 x2 x3 x4 x5 x6 x7
set_option maxRecDepth 100000 in
theorem f16_ev' {X : Type} (R_f31 : f31_R) (hR_f31 : AnsOk Try.prog 31 (f31_cOf R_f31)) (k : Nat) (K : Out → Option X) (x0 : Nat) (x1 : Int) (x2 : Nat) (x3 : Int) (x4 : Int) (x5 : Bool) (x6 : List CV) (x7 : List CV) : evFn (f16_cx R_f31 hR_f31) [] k Try.f16.ntmps Try.f16.results.toList (Try.f16.body.getD .skip) [(.ptr [1000] 0 0 0)] [([1000], (.obj [(.osl [0, 1000] none 0 x0), (.v (CV.int .i64 x1)), (.osl [2, 1000] none 0 x2), (.v (CV.int .i64 x3)), (.v (CV.int .i64 x4)), (.v (CV.bool x5))])), ([0, 1000], (.row false none x6)), ([2, 1000], (.row false none x7))] K = f16_T R_f31 k (fun u => K (f16_out u)) x0 x1 x2 x3 x4 x5 x6 x7 := by kernel_rfl
theorem f16_ev {X : Type} (R_f31 : f31_R) (hR_f31 : AnsOk Try.prog 31 (f31_cOf R_f31)) (k : Nat) (K : Out → Option X) (x0 : Nat) (x1 : Int) (x2 : Nat) (x3 : Int) (x4 : Int) (x5 : Bool) (x6 : List CV) (x7 : List CV) : evFn (f16_cx R_f31 hR_f31) [] k Try.f16.ntmps Try.f16.results.toList (Try.f16.body.getD .skip) [(.ptr [1000] 0 0 0)] [([1000], (.obj [(.osl [0, 1000] none 0 x0), (.v (CV.int .i64 x1)), (.osl [2, 1000] none 0 x2), (.v (CV.int .i64 x3)), (.v (CV.int .i64 x4)), (.v (CV.bool x5))])), ([0, 1000], (.row false none x6)), ([2, 1000], (.row false none x7))] K = f16_A R_f31 k X (fun u => K (f16_out u)) x0 x1 x2 x3 x4 x5 x6 x7 := (f16_ev' R_f31 hR_f31 k K x0 x1 x2 x3 x4 x5 x6 x7).trans rfl
theorem f16_okA (R_f31 : f31_R) (hR_f31 : AnsOk Try.prog 31 (f31_cOf R_f31)) (k : Nat) : AnsOk Try.prog 16 (f16_cOf (f16_A R_f31 k)) := by
  intro X xs ns K x h
  unfold f16_cOf at h ⊢
  split at h
  · exact ans_main S (f16_Cok R_f31 hR_f31) Try.func16 (ent_of Try.func16 (by kernel_rfl) rfl) rfl (fun X K => f16_ev R_f31 hR_f31 k K _ _ _ _ _ _ _ _) h
  · cases h
/-- "(*outpost/flash.Flash).Image" -/
def f16 {X : Type} (k : Nat) (K : Nat × Nat × Int × Nat × Int × Int × Bool × (List CV) × (List CV) × (List CV) → Option X) (x0 : Nat) (x1 : Int) (x2 : Nat) (x3 : Int) (x4 : Int) (x5 : Bool) (x6 : List CV) (x7 : List CV) : Option X := f16_A (fun X => @f31 X k) k X K x0 x1 x2 x3 x4 x5 x6 x7
theorem f16_ok (k : Nat) : AnsOk Try.prog 16 (f16_cOf (fun X => @f16 X k)) := f16_okA (fun X => @f31 X k) (f31_ok k) k
abbrev f17_R : Type 1 := (X : Type) → (Nat × Int × Nat × Int × Int × Bool × (List CV) × (List CV) → Option X) → Int → Nat → Int → Nat → Int → Int → Bool → (List CV) → (List CV) → Option X
def f17_out (u : Nat × Int × Nat × Int × Int × Bool × (List CV) × (List CV)) : Out := ⟨(.tup []), [([1000], (.obj [(.osl [0, 1000] none 0 u.1), (.v (CV.int .i64 u.2.1)), (.osl [2, 1000] none 0 u.2.2.1), (.v (CV.int .i64 u.2.2.2.1)), (.v (CV.int .i64 u.2.2.2.2.1)), (.v (CV.bool u.2.2.2.2.2.1))])), ([0, 1000], (.row false none u.2.2.2.2.2.2.1)), ([2, 1000], (.row false none u.2.2.2.2.2.2.2))]⟩
def f17_cOf (R : f17_R) : FnC := fun X xs ns K => match xs, ns with
  | [(.ptr [1000] 0 0 0), (.v (CV.int .i64 x0))], [([1000], (.obj [(.osl [0, 1000] none 0 x1), (.v (CV.int .i64 x2)), (.osl [2, 1000] none 0 x3), (.v (CV.int .i64 x4)), (.v (CV.int .i64 x5)), (.v (CV.bool x6))])), ([0, 1000], (.row false none x7)), ([2, 1000], (.row false none x8))] => R X (fun u => K (f17_out u)) x0 x1 x2 x3 x4 x5 x6 x7 x8
  | _, _ => none
def f17_plan : Nat → Option (List Nat × List Wk)
  | 0 => some ([0, 1], [])
  | _ => none
def f17_C : Fns := noC
theorem f17_Cok : CsOk Try.prog (f17_C) := noC_ok
def f17_cx : Cx := mkCx (tabOf rows) (f17_C) md (cmpIn cmps) f17_plan (f17_Cok)
def f17_T {X : Type} (k : Nat) (K : Nat × Int × Nat × Int × Int × Bool × (List CV) × (List CV) → Option X)  (x0 : Int) (x1 : Nat) (x2 : Int) (x3 : Nat) (x4 : Int) (x5 : Int) (x6 : Bool) (x7 : List CV) (x8 : List CV) : Option X :=
K (x1, x2, x3, x4, (if (-1) > x0 then (-1) else x0), x6, (List.take (0 + x1) x7), (List.take (0 + x3) x8))
/-- "(*outpost/flash.Flash).Cut" -/
def f17_A (k : Nat) : f17_R := fun X K x0 x1 x2 x3 x4 x5 x6 x7 x8 => f17_T k K  x0 x1 x2 x3 x4 x5 x6 x7 x8
set_option maxRecDepth 100000 in
theorem f17_ev' {X : Type} (k : Nat) (K : Out → Option X) (x0 : Int) (x1 : Nat) (x2 : Int) (x3 : Nat) (x4 : Int) (x5 : Int) (x6 : Bool) (x7 : List CV) (x8 : List CV) : evFn (f17_cx) [] k Try.f17.ntmps Try.f17.results.toList (Try.f17.body.getD .skip) [(.ptr [1000] 0 0 0), (.v (CV.int .i64 x0))] [([1000], (.obj [(.osl [0, 1000] none 0 x1), (.v (CV.int .i64 x2)), (.osl [2, 1000] none 0 x3), (.v (CV.int .i64 x4)), (.v (CV.int .i64 x5)), (.v (CV.bool x6))])), ([0, 1000], (.row false none x7)), ([2, 1000], (.row false none x8))] K = f17_T k (fun u => K (f17_out u)) x0 x1 x2 x3 x4 x5 x6 x7 x8 := by kernel_rfl
theorem f17_ev {X : Type} (k : Nat) (K : Out → Option X) (x0 : Int) (x1 : Nat) (x2 : Int) (x3 : Nat) (x4 : Int) (x5 : Int) (x6 : Bool) (x7 : List CV) (x8 : List CV) : evFn (f17_cx) [] k Try.f17.ntmps Try.f17.results.toList (Try.f17.body.getD .skip) [(.ptr [1000] 0 0 0), (.v (CV.int .i64 x0))] [([1000], (.obj [(.osl [0, 1000] none 0 x1), (.v (CV.int .i64 x2)), (.osl [2, 1000] none 0 x3), (.v (CV.int .i64 x4)), (.v (CV.int .i64 x5)), (.v (CV.bool x6))])), ([0, 1000], (.row false none x7)), ([2, 1000], (.row false none x8))] K = f17_A k X (fun u => K (f17_out u)) x0 x1 x2 x3 x4 x5 x6 x7 x8 := (f17_ev' k K x0 x1 x2 x3 x4 x5 x6 x7 x8).trans rfl
theorem f17_okA (k : Nat) : AnsOk Try.prog 17 (f17_cOf (f17_A k)) := by
  intro X xs ns K x h
  unfold f17_cOf at h ⊢
  split at h
  · exact ans_main S (f17_Cok) Try.func17 (ent_of Try.func17 (by kernel_rfl) rfl) rfl (fun X K => f17_ev k K _ _ _ _ _ _ _ _ _) h
  · cases h
/-- "(*outpost/flash.Flash).Cut" -/
def f17 {X : Type} (k : Nat) (K : Nat × Int × Nat × Int × Int × Bool × (List CV) × (List CV) → Option X) (x0 : Int) (x1 : Nat) (x2 : Int) (x3 : Nat) (x4 : Int) (x5 : Int) (x6 : Bool) (x7 : List CV) (x8 : List CV) : Option X := f17_A k X K x0 x1 x2 x3 x4 x5 x6 x7 x8
theorem f17_ok (k : Nat) : AnsOk Try.prog 17 (f17_cOf (fun X => @f17 X k)) := f17_okA k
abbrev f4_R : Type 1 := (X : Type) → (Bool → Option X) → Int → Int → Int → (List CV) → (List CV) → Option X
def f4_out (u : Bool) : Out := ⟨(.v (CV.bool u)), []⟩
def f4_cOf (R : f4_R) : FnC := fun X xs ns K => match xs, ns with
  | [(.v (CV.int .i64 x0)), (.v (CV.int .i64 x1)), (.v (CV.int .i64 x2)), (.sl true none x3), (.sl true (some 4) x4)], [] => R X (fun u => K (f4_out u)) x0 x1 x2 x3 x4
  | _, _ => none
def f4_plan : Nat → Option (List Nat × List Wk)
  | 0 => some ([0, 1, 2, 3, 4], [])
  | 1 => some ([0, 1, 2, 3, 4], [])
  | 2 => some ([], [])
  | 3 => some ([0, 1, 2, 3, 4], [])
  | 4 => some ([], [])
  | 5 => some ([0, 1, 2, 3, 4], [])
  | 6 => some ([1, 2, 3, 4, 11], [])
  | 7 => some ([1, 2, 4, 11], [])
  | 8 => some ([1, 2, 4, 11, 12], [])
  | 9 => some ([1, 2, 4, 11, 12, 13, 14], [])
  | 10 => some ([14], [])
  | 11 => some ([1, 2, 4, 11, 12, 13], [])
  | 12 => some ([1, 2, 11, 12, 13, 52, 53, 54], [])
  | 13 => some ([1, 2, 11, 12, 13, 52, 53, 54], [])
  | 14 => some ([1, 2, 11, 12, 13, 16, 52, 53, 54], [])
  | 15 => some ([1, 2, 11, 12, 13, 16, 52, 53, 54, 59], [])
  | 16 => some ([1, 2, 11, 12, 13, 16, 52, 53, 54], [])
  | 17 => some ([1, 2, 11, 12, 13, 16, 52, 53, 54, 59], [])
  | 18 => some ([1, 2, 11, 12, 13, 52, 53, 54], [])
  | 19 => some ([1, 2, 11, 12, 13, 16, 52, 53, 54, 59], [])
  | 20 => some ([1, 2, 11, 12, 13, 16, 52, 53, 54], [])
  | 21 => some ([1, 2, 11, 12, 13, 52, 53, 54, 59], [])
  | 22 => some ([1, 2, 11, 12, 13, 52, 53, 54], [])
  | 23 => some ([1, 2, 11, 12, 13, 52, 53, 54], [])
  | 24 => some ([1, 2, 11, 12], [])
  | 25 => some ([1, 2, 11, 12, 17], [])
  | 26 => some ([1, 2, 11, 12, 17, 86, 87], [])
  | 27 => some ([1, 2, 11, 12, 17, 86, 87], [])
  | 28 => some ([1, 2, 11, 12, 17, 18, 86, 87], [])
  | 29 => some ([1, 2, 11, 12, 17, 18, 19, 86, 87], [])
  | 30 => some ([], [])
  | 31 => some ([1, 2, 11, 12, 17, 86, 87], [])
  | 32 => some ([], [])
  | _ => none
def f4_C (R_f5 : f5_R) (R_f14 : f14_R) (R_f6 : f6_R) (R_f15 : f15_R) (R_f16 : f16_R) (R_f7 : f7_R) (R_f8 : f8_R) (R_f9 : f9_R) (R_f17 : f17_R) (R_f18 : f18_R) (R_f19 : f19_R) : Fns := (orC 5 (f5_cOf R_f5) (orC 6 (f6_cOf R_f6) (orC 7 (f7_cOf R_f7) (orC 8 (f8_cOf R_f8) (orC 9 (f9_cOf R_f9) (orC 14 (f14_cOf R_f14) (orC 15 (f15_cOf R_f15) (orC 16 (f16_cOf R_f16) (orC 17 (f17_cOf R_f17) (orC 18 (f18_cOf R_f18) (orC 19 (f19_cOf R_f19) noC)))))))))))
theorem f4_Cok (R_f5 : f5_R) (R_f14 : f14_R) (R_f6 : f6_R) (R_f15 : f15_R) (R_f16 : f16_R) (R_f7 : f7_R) (R_f8 : f8_R) (R_f9 : f9_R) (R_f17 : f17_R) (R_f18 : f18_R) (R_f19 : f19_R) (hR_f5 : AnsOk Try.prog 5 (f5_cOf R_f5)) (hR_f14 : AnsOk Try.prog 14 (f14_cOf R_f14)) (hR_f6 : AnsOk Try.prog 6 (f6_cOf R_f6)) (hR_f15 : AnsOk Try.prog 15 (f15_cOf R_f15)) (hR_f16 : AnsOk Try.prog 16 (f16_cOf R_f16)) (hR_f7 : AnsOk Try.prog 7 (f7_cOf R_f7)) (hR_f8 : AnsOk Try.prog 8 (f8_cOf R_f8)) (hR_f9 : AnsOk Try.prog 9 (f9_cOf R_f9)) (hR_f17 : AnsOk Try.prog 17 (f17_cOf R_f17)) (hR_f18 : AnsOk Try.prog 18 (f18_cOf R_f18)) (hR_f19 : AnsOk Try.prog 19 (f19_cOf R_f19)) : CsOk Try.prog (f4_C R_f5 R_f14 R_f6 R_f15 R_f16 R_f7 R_f8 R_f9 R_f17 R_f18 R_f19) := (orC_ok hR_f5 (orC_ok hR_f6 (orC_ok hR_f7 (orC_ok hR_f8 (orC_ok hR_f9 (orC_ok hR_f14 (orC_ok hR_f15 (orC_ok hR_f16 (orC_ok hR_f17 (orC_ok hR_f18 (orC_ok hR_f19 noC_ok)))))))))))
def f4_cx (R_f5 : f5_R) (R_f14 : f14_R) (R_f6 : f6_R) (R_f15 : f15_R) (R_f16 : f16_R) (R_f7 : f7_R) (R_f8 : f8_R) (R_f9 : f9_R) (R_f17 : f17_R) (R_f18 : f18_R) (R_f19 : f19_R) (hR_f5 : AnsOk Try.prog 5 (f5_cOf R_f5)) (hR_f14 : AnsOk Try.prog 14 (f14_cOf R_f14)) (hR_f6 : AnsOk Try.prog 6 (f6_cOf R_f6)) (hR_f15 : AnsOk Try.prog 15 (f15_cOf R_f15)) (hR_f16 : AnsOk Try.prog 16 (f16_cOf R_f16)) (hR_f7 : AnsOk Try.prog 7 (f7_cOf R_f7)) (hR_f8 : AnsOk Try.prog 8 (f8_cOf R_f8)) (hR_f9 : AnsOk Try.prog 9 (f9_cOf R_f9)) (hR_f17 : AnsOk Try.prog 17 (f17_cOf R_f17)) (hR_f18 : AnsOk Try.prog 18 (f18_cOf R_f18)) (hR_f19 : AnsOk Try.prog 19 (f19_cOf R_f19)) : Cx := mkCx (tabOf rows) (f4_C R_f5 R_f14 R_f6 R_f15 R_f16 R_f7 R_f8 R_f9 R_f17 R_f18 R_f19) md (cmpIn cmps) f4_plan (f4_Cok R_f5 R_f14 R_f6 R_f15 R_f16 R_f7 R_f8 R_f9 R_f17 R_f18 R_f19 hR_f5 hR_f14 hR_f6 hR_f15 hR_f16 hR_f7 hR_f8 hR_f9 hR_f17 hR_f18 hR_f19)
def f4_S1 (v : Int × Int × Nat × (List CV) × Int × Int × (List CV) × Nat × Int × Nat × Int × Int × Bool × (List CV) × (List CV) × Int × Int) : St := ⟨[.undef, (.v (CV.int .i64 v.1)), (.v (CV.int .i64 v.2.1)), .undef, .undef, .undef, .undef, .undef, .undef, .undef, .undef, (.ptr [35] 0 0 0), (.osl [12] none 0 v.2.2.1), (.ptr [0, 45] 0 0 0), .undef, .undef, .undef, .undef, .undef, .undef, .undef, .undef, .undef, .undef, .undef, .undef, .undef, .undef, .undef, .undef, .undef, .undef, .undef, .undef, .undef, .undef, .undef, .undef, .undef, .undef, .undef, .undef, .undef, .undef, .undef, .undef, .undef, .undef, .undef, .undef, .undef, .undef, (.sl true (some 4) v.2.2.2.1), (.v (CV.int .i64 v.2.2.2.2.1)), (.v (CV.int .i64 v.2.2.2.2.2.1)), .undef, .undef, .undef, .undef, .undef, .undef, .undef, .undef, .undef, .undef, .undef, .undef, .undef, .undef, .undef, .undef, .undef, .undef, .undef, .undef, .undef, .undef, .undef, .undef, .undef, .undef, .undef, .undef, .undef, .undef, .undef, .undef, .undef, .undef, .undef, .undef, .undef, .undef, .undef, .undef, .undef, .undef, .undef, .undef, .undef, .undef, .undef, .undef, .undef, .undef, .undef, .undef, .undef, .undef, .undef, .undef, .undef, .undef, .undef, .undef, .undef, .undef, .undef, .undef, .undef], [([12], (.row false none v.2.2.2.2.2.2.1)), ([35], (.obj [(.osl [0, 35] none 0 v.2.2.2.2.2.2.2.1), (.v (CV.int .i64 v.2.2.2.2.2.2.2.2.1)), (.osl [2, 35] none 0 v.2.2.2.2.2.2.2.2.2.1), (.v (CV.int .i64 v.2.2.2.2.2.2.2.2.2.2.1)), (.v (CV.int .i64 v.2.2.2.2.2.2.2.2.2.2.2.1)), (.v (CV.bool v.2.2.2.2.2.2.2.2.2.2.2.2.1))])), ([0, 35], (.row false none v.2.2.2.2.2.2.2.2.2.2.2.2.2.1)), ([2, 35], (.row false none v.2.2.2.2.2.2.2.2.2.2.2.2.2.2.1)), ([0, 45], (.obj [(.ptr [35] 0 0 0), (.v (CV.int .i64 v.2.2.2.2.2.2.2.2.2.2.2.2.2.2.2.1)), (.v (CV.int .i64 v.2.2.2.2.2.2.2.2.2.2.2.2.2.2.2.2))]))]⟩
def f4_S2 (v : Int × Int × Nat × Nat × Int × Int × (List CV) × (List CV) × Nat × Int × Nat × Int × Int × Bool × (List CV) × (List CV)) : St := ⟨[.undef, (.v (CV.int .i64 v.1)), (.v (CV.int .i64 v.2.1)), .undef, .undef, .undef, .undef, .undef, .undef, .undef, .undef, (.ptr [35] 0 0 0), (.osl [12] none 0 v.2.2.1), .undef, .undef, .undef, .undef, (.osl [17] none 0 v.2.2.2.1), .undef, .undef, .undef, .undef, .undef, .undef, .undef, .undef, .undef, .undef, .undef, .undef, .undef, .undef, .undef, .undef, .undef, .undef, .undef, .undef, .undef, .undef, .undef, .undef, .undef, .undef, .undef, .undef, .undef, .undef, .undef, .undef, .undef, .undef, .undef, .undef, .undef, .undef, .undef, .undef, .undef, .undef, .undef, .undef, .undef, .undef, .undef, .undef, .undef, .undef, .undef, .undef, .undef, .undef, .undef, .undef, .undef, .undef, .undef, .undef, .undef, .undef, .undef, .undef, .undef, .undef, .undef, .undef, (.v (CV.int .i64 v.2.2.2.2.1)), (.v (CV.int .i64 v.2.2.2.2.2.1)), .undef, .undef, .undef, .undef, .undef, .undef, .undef, .undef, .undef, .undef, .undef, .undef, .undef, .undef, .undef, .undef, .undef, .undef, .undef, .undef, .undef, .undef, .undef, .undef, .undef, .undef, .undef, .undef, .undef, .undef, .undef, .undef], [([12], (.row false none v.2.2.2.2.2.2.1)), ([17], (.row false none v.2.2.2.2.2.2.2.1)), ([35], (.obj [(.osl [0, 35] none 0 v.2.2.2.2.2.2.2.2.1), (.v (CV.int .i64 v.2.2.2.2.2.2.2.2.2.1)), (.osl [2, 35] none 0 v.2.2.2.2.2.2.2.2.2.2.1), (.v (CV.int .i64 v.2.2.2.2.2.2.2.2.2.2.2.1)), (.v (CV.int .i64 v.2.2.2.2.2.2.2.2.2.2.2.2.1)), (.v (CV.bool v.2.2.2.2.2.2.2.2.2.2.2.2.2.1))])), ([0, 35], (.row false none v.2.2.2.2.2.2.2.2.2.2.2.2.2.2.1)), ([2, 35], (.row false none v.2.2.2.2.2.2.2.2.2.2.2.2.2.2.2))]⟩
def f4_J1 {X : Type} (R_f5 : f5_R) (R_f14 : f14_R) (R_f6 : f6_R) (R_f15 : f15_R) (R_f16 : f16_R) (R_f7 : f7_R) (R_f8 : f8_R) (R_f9 : f9_R) (R_f17 : f17_R) (R_f18 : f18_R) (R_f19 : f19_R) (k : Nat) (K : Bool → Option X) (rec1 : Int × Int × Nat × (List CV) × Int × Int × (List CV) × Nat × Int × Nat × Int × Int × Bool × (List CV) × (List CV) × Int × Int → Option X) (v11_9 : Int × Int × Nat × (List CV) × Int × Int × (List CV) × Nat × Int × Nat × Int × Int × Bool × (List CV) × (List CV) × Int × Int) (v26 : Nat × Int × Nat × Int × Int × Bool × (List CV) × (List CV) × Int × Int) : Option X :=
rec1 (v11_9.1, v11_9.2.1, v11_9.2.2.1, v11_9.2.2.2.1, v11_9.2.2.2.2.1, (IntKind.wrap .i64 (v11_9.2.2.2.2.2.1 + 1)), v11_9.2.2.2.2.2.2.1, v26.1, v26.2.1, v26.2.2.1, v26.2.2.2.1, v26.2.2.2.2.1, v26.2.2.2.2.2.1, v26.2.2.2.2.2.2.1, v26.2.2.2.2.2.2.2.1, v26.2.2.2.2.2.2.2.2.1, v26.2.2.2.2.2.2.2.2.2)
def f4_J2 {X : Type} (R_f5 : f5_R) (R_f14 : f14_R) (R_f6 : f6_R) (R_f15 : f15_R) (R_f16 : f16_R) (R_f7 : f7_R) (R_f8 : f8_R) (R_f9 : f9_R) (R_f17 : f17_R) (R_f18 : f18_R) (R_f19 : f19_R) (k : Nat) (K : Bool → Option X) (rec2 : Int × Int × Nat × Nat × Int × Int × (List CV) × (List CV) × Nat × Int × Nat × Int × Int × Bool × (List CV) × (List CV) → Option X) (v13_32 : Int × Int × Nat × Nat × Int × Int × (List CV) × (List CV) × Nat × Int × Nat × Int × Int × Bool × (List CV) × (List CV)) (v52 : Nat × Int × Nat × Int × Int × Bool × (List CV) × (List CV)) : Option X :=
rec2 (v13_32.1, v13_32.2.1, v13_32.2.2.1, v13_32.2.2.2.1, v13_32.2.2.2.2.1, (IntKind.wrap .i64 (v13_32.2.2.2.2.2.1 + 1)), v13_32.2.2.2.2.2.2.1, v13_32.2.2.2.2.2.2.2.1, v52.1, v52.2.1, v52.2.2.1, v52.2.2.2.1, v52.2.2.2.2.1, v52.2.2.2.2.2.1, v52.2.2.2.2.2.2.1, v52.2.2.2.2.2.2.2)
def f4_T2 {X : Type} (R_f5 : f5_R) (R_f14 : f14_R) (R_f6 : f6_R) (R_f15 : f15_R) (R_f16 : f16_R) (R_f7 : f7_R) (R_f8 : f8_R) (R_f9 : f9_R) (R_f17 : f17_R) (R_f18 : f18_R) (R_f19 : f19_R) (k : Nat) (K : Bool → Option X)   (rec2 : Int × Int × Nat × Nat × Int × Int × (List CV) × (List CV) × Nat × Int × Nat × Int × Int × Bool × (List CV) × (List CV) → Option X) (v13_32 : Int × Int × Nat × Nat × Int × Int × (List CV) × (List CV) × Nat × Int × Nat × Int × Int × Bool × (List CV) × (List CV)) : Option X :=
(bif (decide (v13_32.2.2.2.2.2.1 < v13_32.2.2.2.2.1)) then
R_f19 _ (fun u53 =>
grd (u53.1 != 0) <|
(bif (decide ((IntKind.wrap .i64 (Int.tdiv v13_32.2.2.2.2.2.1 u53.1)) ≥ v13_32.1)) then
R_f19 _ (fun u54 =>
grd (u54.1 != 0) <|
(bif (!(decide ((IntKind.wrap .i64 ((IntKind.wrap .i64 (Int.tdiv v13_32.2.2.2.2.2.1 u54.1)) - v13_32.1)) < v13_32.2.1))) then
grd (decide (0 ≤ v13_32.2.2.2.2.2.1)) <|
grd (decide (v13_32.2.2.2.2.2.1 < (Nat.cast (v13_32.2.2.1) : Int))) <|
Option.bind (v13_32.2.2.2.2.2.2.1)[(0 + (Int.toNat v13_32.2.2.2.2.2.1))]? fun e55 =>
grd (CV.isI .u8 e55) <|
grd (decide (0 ≤ v13_32.2.2.2.2.2.1)) <|
grd (decide (v13_32.2.2.2.2.2.1 < (Nat.cast (v13_32.2.2.2.1) : Int))) <|
Option.bind (v13_32.2.2.2.2.2.2.2.1)[(0 + (Int.toNat v13_32.2.2.2.2.2.1))]? fun e56 =>
grd (CV.isI .u8 e56) <|
(bif ((CV.toI e55) != (CV.toI e56)) then
K (false)
else
f4_J2 R_f5 R_f14 R_f6 R_f15 R_f16 R_f7 R_f8 R_f9 R_f17 R_f18 R_f19 k K rec2 v13_32 (u54.2.1, u54.2.2.1, u54.2.2.2.1, u54.2.2.2.2.1, u54.2.2.2.2.2.1, u54.2.2.2.2.2.2.1, u54.2.2.2.2.2.2.2.1, u54.2.2.2.2.2.2.2.2))
else
f4_J2 R_f5 R_f14 R_f6 R_f15 R_f16 R_f7 R_f8 R_f9 R_f17 R_f18 R_f19 k K rec2 v13_32 (u54.2.1, u54.2.2.1, u54.2.2.2.1, u54.2.2.2.2.1, u54.2.2.2.2.2.1, u54.2.2.2.2.2.2.1, u54.2.2.2.2.2.2.2.1, u54.2.2.2.2.2.2.2.2))) (u53.2.1) (u53.2.2.1) (u53.2.2.2.1) (u53.2.2.2.2.1) (u53.2.2.2.2.2.1) (u53.2.2.2.2.2.2.1) (u53.2.2.2.2.2.2.2.1) (u53.2.2.2.2.2.2.2.2)
else
grd (decide (0 ≤ v13_32.2.2.2.2.2.1)) <|
grd (decide (v13_32.2.2.2.2.2.1 < (Nat.cast (v13_32.2.2.1) : Int))) <|
Option.bind (v13_32.2.2.2.2.2.2.1)[(0 + (Int.toNat v13_32.2.2.2.2.2.1))]? fun e57 =>
grd (CV.isI .u8 e57) <|
grd (decide (0 ≤ v13_32.2.2.2.2.2.1)) <|
grd (decide (v13_32.2.2.2.2.2.1 < (Nat.cast (v13_32.2.2.2.1) : Int))) <|
Option.bind (v13_32.2.2.2.2.2.2.2.1)[(0 + (Int.toNat v13_32.2.2.2.2.2.1))]? fun e58 =>
grd (CV.isI .u8 e58) <|
(bif ((CV.toI e57) != (CV.toI e58)) then
K (false)
else
f4_J2 R_f5 R_f14 R_f6 R_f15 R_f16 R_f7 R_f8 R_f9 R_f17 R_f18 R_f19 k K rec2 v13_32 (u53.2.1, u53.2.2.1, u53.2.2.2.1, u53.2.2.2.2.1, u53.2.2.2.2.2.1, u53.2.2.2.2.2.2.1, u53.2.2.2.2.2.2.2.1, u53.2.2.2.2.2.2.2.2)))) (v13_32.2.2.2.2.2.2.2.2.1) (v13_32.2.2.2.2.2.2.2.2.2.1) (v13_32.2.2.2.2.2.2.2.2.2.2.1) (v13_32.2.2.2.2.2.2.2.2.2.2.2.1) (v13_32.2.2.2.2.2.2.2.2.2.2.2.2.1) (v13_32.2.2.2.2.2.2.2.2.2.2.2.2.2.1) (v13_32.2.2.2.2.2.2.2.2.2.2.2.2.2.2.1) (v13_32.2.2.2.2.2.2.2.2.2.2.2.2.2.2.2)
else
K (true))
def f4_L2 {X : Type} (R_f5 : f5_R) (R_f14 : f14_R) (R_f6 : f6_R) (R_f15 : f15_R) (R_f16 : f16_R) (R_f7 : f7_R) (R_f8 : f8_R) (R_f9 : f9_R) (R_f17 : f17_R) (R_f18 : f18_R) (R_f19 : f19_R) (k : Nat) (K : Bool → Option X)  (rec2 : Int × Int × Nat × Nat × Int × Int × (List CV) × (List CV) × Nat × Int × Nat × Int × Int × Bool × (List CV) × (List CV) → Option X) (v : Int × Int × Nat × Nat × Int × Int × (List CV) × (List CV) × Nat × Int × Nat × Int × Int × Bool × (List CV) × (List CV)) : Option X := f4_T2 R_f5 R_f14 R_f6 R_f15 R_f16 R_f7 R_f8 R_f9 R_f17 R_f18 R_f19 k K   rec2 v
set_option maxRecDepth 100000 in
theorem f4_L2_ev {X : Type} (R_f5 : f5_R) (R_f14 : f14_R) (R_f6 : f6_R) (R_f15 : f15_R) (R_f16 : f16_R) (R_f7 : f7_R) (R_f8 : f8_R) (R_f9 : f9_R) (R_f17 : f17_R) (R_f18 : f18_R) (R_f19 : f19_R) (hR_f5 : AnsOk Try.prog 5 (f5_cOf R_f5)) (hR_f14 : AnsOk Try.prog 14 (f14_cOf R_f14)) (hR_f6 : AnsOk Try.prog 6 (f6_cOf R_f6)) (hR_f15 : AnsOk Try.prog 15 (f15_cOf R_f15)) (hR_f16 : AnsOk Try.prog 16 (f16_cOf R_f16)) (hR_f7 : AnsOk Try.prog 7 (f7_cOf R_f7)) (hR_f8 : AnsOk Try.prog 8 (f8_cOf R_f8)) (hR_f9 : AnsOk Try.prog 9 (f9_cOf R_f9)) (hR_f17 : AnsOk Try.prog 17 (f17_cOf R_f17)) (hR_f18 : AnsOk Try.prog 18 (f18_cOf R_f18)) (hR_f19 : AnsOk Try.prog 19 (f19_cOf R_f19)) (k : Nat) (K : Out → Option X)  (r2 : St → Option X) (v : Int × Int × Nat × Nat × Int × Int × (List CV) × (List CV) × Nat × Int × Nat × Int × Int × Bool × (List CV) × (List CV)) : loopB (f4_cx R_f5 R_f14 R_f6 R_f15 R_f16 R_f7 R_f8 R_f9 R_f17 R_f18 R_f19 hR_f5 hR_f14 hR_f6 hR_f15 hR_f16 hR_f7 hR_f8 hR_f9 hR_f17 hR_f18 hR_f19) k [.r, .r, .r, .r, .r, .r, .r, .r, .r, .r, .l, .r, .b] (Try.f4.body.getD .skip) (retK (f4_cx R_f5 R_f14 R_f6 R_f15 R_f16 R_f7 R_f8 R_f9 R_f17 R_f18 R_f19 hR_f5 hR_f14 hR_f6 hR_f15 hR_f16 hR_f7 hR_f8 hR_f9 hR_f17 hR_f18 hR_f19) [] Try.f4.results.toList K) [] r2 (f4_S2 v) = f4_T2 R_f5 R_f14 R_f6 R_f15 R_f16 R_f7 R_f8 R_f9 R_f17 R_f18 R_f19 k (fun u => K (f4_out u))   (fun v => r2 (f4_S2 v)) v := by kernel_rfl
theorem f4_L2_it {X : Type} (R_f5 : f5_R) (R_f14 : f14_R) (R_f6 : f6_R) (R_f15 : f15_R) (R_f16 : f16_R) (R_f7 : f7_R) (R_f8 : f8_R) (R_f9 : f9_R) (R_f17 : f17_R) (R_f18 : f18_R) (R_f19 : f19_R) (hR_f5 : AnsOk Try.prog 5 (f5_cOf R_f5)) (hR_f14 : AnsOk Try.prog 14 (f14_cOf R_f14)) (hR_f6 : AnsOk Try.prog 6 (f6_cOf R_f6)) (hR_f15 : AnsOk Try.prog 15 (f15_cOf R_f15)) (hR_f16 : AnsOk Try.prog 16 (f16_cOf R_f16)) (hR_f7 : AnsOk Try.prog 7 (f7_cOf R_f7)) (hR_f8 : AnsOk Try.prog 8 (f8_cOf R_f8)) (hR_f9 : AnsOk Try.prog 9 (f9_cOf R_f9)) (hR_f17 : AnsOk Try.prog 17 (f17_cOf R_f17)) (hR_f18 : AnsOk Try.prog 18 (f18_cOf R_f18)) (hR_f19 : AnsOk Try.prog 19 (f19_cOf R_f19)) (k : Nat) (K : Out → Option X)  : (fun v => iter (loopB (f4_cx R_f5 R_f14 R_f6 R_f15 R_f16 R_f7 R_f8 R_f9 R_f17 R_f18 R_f19 hR_f5 hR_f14 hR_f6 hR_f15 hR_f16 hR_f7 hR_f8 hR_f9 hR_f17 hR_f18 hR_f19) k [.r, .r, .r, .r, .r, .r, .r, .r, .r, .r, .l, .r, .b] (Try.f4.body.getD .skip) (retK (f4_cx R_f5 R_f14 R_f6 R_f15 R_f16 R_f7 R_f8 R_f9 R_f17 R_f18 R_f19 hR_f5 hR_f14 hR_f6 hR_f15 hR_f16 hR_f7 hR_f8 hR_f9 hR_f17 hR_f18 hR_f19) [] Try.f4.results.toList K) []) k (f4_S2 v)) = iterV (f4_L2 R_f5 R_f14 R_f6 R_f15 R_f16 R_f7 R_f8 R_f9 R_f17 R_f18 R_f19 k (fun u => K (f4_out u)) ) k :=
  iter_map (fun r2 v => (f4_L2_ev R_f5 R_f14 R_f6 R_f15 R_f16 R_f7 R_f8 R_f9 R_f17 R_f18 R_f19 hR_f5 hR_f14 hR_f6 hR_f15 hR_f16 hR_f7 hR_f8 hR_f9 hR_f17 hR_f18 hR_f19 k K  r2 v).trans rfl) k
def f4_T1 {X : Type} (R_f5 : f5_R) (R_f14 : f14_R) (R_f6 : f6_R) (R_f15 : f15_R) (R_f16 : f16_R) (R_f7 : f7_R) (R_f8 : f8_R) (R_f9 : f9_R) (R_f17 : f17_R) (R_f18 : f18_R) (R_f19 : f19_R) (k : Nat) (K : Bool → Option X)  (loop2 : Int × Int × Nat × Nat × Int × Int × (List CV) × (List CV) × Nat × Int × Nat × Int × Int × Bool × (List CV) × (List CV) → Option X) (rec1 : Int × Int × Nat × (List CV) × Int × Int × (List CV) × Nat × Int × Nat × Int × Int × Bool × (List CV) × (List CV) × Int × Int → Option X) (v11_9 : Int × Int × Nat × (List CV) × Int × Int × (List CV) × Nat × Int × Nat × Int × Int × Bool × (List CV) × (List CV) × Int × Int) : Option X :=
(bif (decide (v11_9.2.2.2.2.2.1 < v11_9.2.2.2.2.1)) then
grd (decide (0 ≤ v11_9.2.2.2.2.2.1)) <|
Option.bind (v11_9.2.2.2.1)[(Int.toNat v11_9.2.2.2.2.2.1)]? fun e27 =>
grd (CV.isA 4 e27) <|
grd (CV.isI .i64 (CV.cellD 0 e27)) <|
grd (CV.isI .i64 (CV.cellD 1 e27)) <|
grd (CV.isI .i64 (CV.cellD 2 e27)) <|
grd (CV.isL none (CV.cellD 3 e27)) <|
(bif ((CV.toI (CV.cellD 0 e27)) == 0) then
R_f8 _ (fun u28 =>
f4_J1 R_f5 R_f14 R_f6 R_f15 R_f16 R_f7 R_f8 R_f9 R_f17 R_f18 R_f19 k K rec1 v11_9 (u28.2.2.2.1, u28.2.2.2.2.1, u28.2.2.2.2.2.1, u28.2.2.2.2.2.2.1, u28.2.2.2.2.2.2.2.1, u28.2.2.2.2.2.2.2.2.1, u28.2.2.2.2.2.2.2.2.2.1, u28.2.2.2.2.2.2.2.2.2.2, u28.2.1, u28.2.2.1)) ((CV.toI (CV.cellD 1 e27))) ((CV.toL (CV.cellD 3 e27))) (v11_9.2.2.2.2.2.2.2.2.2.2.2.2.2.2.2.1) (v11_9.2.2.2.2.2.2.2.2.2.2.2.2.2.2.2.2) (v11_9.2.2.2.2.2.2.2.1) (v11_9.2.2.2.2.2.2.2.2.1) (v11_9.2.2.2.2.2.2.2.2.2.1) (v11_9.2.2.2.2.2.2.2.2.2.2.1) (v11_9.2.2.2.2.2.2.2.2.2.2.2.1) (v11_9.2.2.2.2.2.2.2.2.2.2.2.2.1) (v11_9.2.2.2.2.2.2.2.2.2.2.2.2.2.1) (v11_9.2.2.2.2.2.2.2.2.2.2.2.2.2.2.1)
else
(bif ((CV.toI (CV.cellD 0 e27)) == 1) then
R_f9 _ (fun u29 =>
f4_J1 R_f5 R_f14 R_f6 R_f15 R_f16 R_f7 R_f8 R_f9 R_f17 R_f18 R_f19 k K rec1 v11_9 (u29.2.2.2.1, u29.2.2.2.2.1, u29.2.2.2.2.2.1, u29.2.2.2.2.2.2.1, u29.2.2.2.2.2.2.2.1, u29.2.2.2.2.2.2.2.2.1, u29.2.2.2.2.2.2.2.2.2.1, u29.2.2.2.2.2.2.2.2.2.2, u29.2.1, u29.2.2.1)) (v11_9.2.2.2.2.2.2.2.2.2.2.2.2.2.2.2.1) (v11_9.2.2.2.2.2.2.2.2.2.2.2.2.2.2.2.2) (v11_9.2.2.2.2.2.2.2.1) (v11_9.2.2.2.2.2.2.2.2.1) (v11_9.2.2.2.2.2.2.2.2.2.1) (v11_9.2.2.2.2.2.2.2.2.2.2.1) (v11_9.2.2.2.2.2.2.2.2.2.2.2.1) (v11_9.2.2.2.2.2.2.2.2.2.2.2.2.1) (v11_9.2.2.2.2.2.2.2.2.2.2.2.2.2.1) (v11_9.2.2.2.2.2.2.2.2.2.2.2.2.2.2.1)
else
(bif ((CV.toI (CV.cellD 0 e27)) == 3) then
R_f17 _ (fun u30 =>
f4_J1 R_f5 R_f14 R_f6 R_f15 R_f16 R_f7 R_f8 R_f9 R_f17 R_f18 R_f19 k K rec1 v11_9 (u30.1, u30.2.1, u30.2.2.1, u30.2.2.2.1, u30.2.2.2.2.1, u30.2.2.2.2.2.1, u30.2.2.2.2.2.2.1, u30.2.2.2.2.2.2.2, v11_9.2.2.2.2.2.2.2.2.2.2.2.2.2.2.2.1, v11_9.2.2.2.2.2.2.2.2.2.2.2.2.2.2.2.2)) ((CV.toI (CV.cellD 1 e27))) (v11_9.2.2.2.2.2.2.2.1) (v11_9.2.2.2.2.2.2.2.2.1) (v11_9.2.2.2.2.2.2.2.2.2.1) (v11_9.2.2.2.2.2.2.2.2.2.2.1) (v11_9.2.2.2.2.2.2.2.2.2.2.2.1) (v11_9.2.2.2.2.2.2.2.2.2.2.2.2.1) (v11_9.2.2.2.2.2.2.2.2.2.2.2.2.2.1) (v11_9.2.2.2.2.2.2.2.2.2.2.2.2.2.2.1)
else
(bif ((CV.toI (CV.cellD 0 e27)) == 4) then
R_f18 _ (fun u31 =>
f4_J1 R_f5 R_f14 R_f6 R_f15 R_f16 R_f7 R_f8 R_f9 R_f17 R_f18 R_f19 k K rec1 v11_9 (u31.1, u31.2.1, u31.2.2.1, u31.2.2.2.1, (-1), false, u31.2.2.2.2.1, u31.2.2.2.2.2, v11_9.2.2.2.2.2.2.2.2.2.2.2.2.2.2.2.1, v11_9.2.2.2.2.2.2.2.2.2.2.2.2.2.2.2.2)) (v11_9.2.2.2.2.2.2.2.1) (v11_9.2.2.2.2.2.2.2.2.1) (v11_9.2.2.2.2.2.2.2.2.2.1) (v11_9.2.2.2.2.2.2.2.2.2.2.1) (v11_9.2.2.2.2.2.2.2.2.2.2.2.1) (v11_9.2.2.2.2.2.2.2.2.2.2.2.2.1) (v11_9.2.2.2.2.2.2.2.2.2.2.2.2.2.1) (v11_9.2.2.2.2.2.2.2.2.2.2.2.2.2.2.1)
else
f4_J1 R_f5 R_f14 R_f6 R_f15 R_f16 R_f7 R_f8 R_f9 R_f17 R_f18 R_f19 k K rec1 v11_9 (v11_9.2.2.2.2.2.2.2.1, v11_9.2.2.2.2.2.2.2.2.1, v11_9.2.2.2.2.2.2.2.2.2.1, v11_9.2.2.2.2.2.2.2.2.2.2.1, v11_9.2.2.2.2.2.2.2.2.2.2.2.1, v11_9.2.2.2.2.2.2.2.2.2.2.2.2.1, v11_9.2.2.2.2.2.2.2.2.2.2.2.2.2.1, v11_9.2.2.2.2.2.2.2.2.2.2.2.2.2.2.1, v11_9.2.2.2.2.2.2.2.2.2.2.2.2.2.2.2.1, v11_9.2.2.2.2.2.2.2.2.2.2.2.2.2.2.2.2)))))
else
R_f16 _ (fun u32 =>
loop2 (v11_9.1, v11_9.2.1, v11_9.2.2.1, u32.1, (Nat.cast (v11_9.2.2.1) : Int), 0, v11_9.2.2.2.2.2.2.1, u32.2.2.2.2.2.2.2.2.2, u32.2.1, u32.2.2.1, u32.2.2.2.1, u32.2.2.2.2.1, u32.2.2.2.2.2.1, u32.2.2.2.2.2.2.1, u32.2.2.2.2.2.2.2.1, u32.2.2.2.2.2.2.2.2.1)) (v11_9.2.2.2.2.2.2.2.1) (v11_9.2.2.2.2.2.2.2.2.1) (v11_9.2.2.2.2.2.2.2.2.2.1) (v11_9.2.2.2.2.2.2.2.2.2.2.1) (v11_9.2.2.2.2.2.2.2.2.2.2.2.1) (v11_9.2.2.2.2.2.2.2.2.2.2.2.2.1) (v11_9.2.2.2.2.2.2.2.2.2.2.2.2.2.1) (v11_9.2.2.2.2.2.2.2.2.2.2.2.2.2.2.1))
def f4_L1 {X : Type} (R_f5 : f5_R) (R_f14 : f14_R) (R_f6 : f6_R) (R_f15 : f15_R) (R_f16 : f16_R) (R_f7 : f7_R) (R_f8 : f8_R) (R_f9 : f9_R) (R_f17 : f17_R) (R_f18 : f18_R) (R_f19 : f19_R) (k : Nat) (K : Bool → Option X)  (rec1 : Int × Int × Nat × (List CV) × Int × Int × (List CV) × Nat × Int × Nat × Int × Int × Bool × (List CV) × (List CV) × Int × Int → Option X) (v : Int × Int × Nat × (List CV) × Int × Int × (List CV) × Nat × Int × Nat × Int × Int × Bool × (List CV) × (List CV) × Int × Int) : Option X := f4_T1 R_f5 R_f14 R_f6 R_f15 R_f16 R_f7 R_f8 R_f9 R_f17 R_f18 R_f19 k K  (iterV (f4_L2 R_f5 R_f14 R_f6 R_f15 R_f16 R_f7 R_f8 R_f9 R_f17 R_f18 R_f19 k K ) k) rec1 v
set_option maxRecDepth 100000 in
theorem f4_L1_ev {X : Type} (R_f5 : f5_R) (R_f14 : f14_R) (R_f6 : f6_R) (R_f15 : f15_R) (R_f16 : f16_R) (R_f7 : f7_R) (R_f8 : f8_R) (R_f9 : f9_R) (R_f17 : f17_R) (R_f18 : f18_R) (R_f19 : f19_R) (hR_f5 : AnsOk Try.prog 5 (f5_cOf R_f5)) (hR_f14 : AnsOk Try.prog 14 (f14_cOf R_f14)) (hR_f6 : AnsOk Try.prog 6 (f6_cOf R_f6)) (hR_f15 : AnsOk Try.prog 15 (f15_cOf R_f15)) (hR_f16 : AnsOk Try.prog 16 (f16_cOf R_f16)) (hR_f7 : AnsOk Try.prog 7 (f7_cOf R_f7)) (hR_f8 : AnsOk Try.prog 8 (f8_cOf R_f8)) (hR_f9 : AnsOk Try.prog 9 (f9_cOf R_f9)) (hR_f17 : AnsOk Try.prog 17 (f17_cOf R_f17)) (hR_f18 : AnsOk Try.prog 18 (f18_cOf R_f18)) (hR_f19 : AnsOk Try.prog 19 (f19_cOf R_f19)) (k : Nat) (K : Out → Option X)  (r1 : St → Option X) (v : Int × Int × Nat × (List CV) × Int × Int × (List CV) × Nat × Int × Nat × Int × Int × Bool × (List CV) × (List CV) × Int × Int) : loopB (f4_cx R_f5 R_f14 R_f6 R_f15 R_f16 R_f7 R_f8 R_f9 R_f17 R_f18 R_f19 hR_f5 hR_f14 hR_f6 hR_f15 hR_f16 hR_f7 hR_f8 hR_f9 hR_f17 hR_f18 hR_f19) k [.r, .r, .r, .r, .r, .r, .r, .r, .l, .r, .b] (Try.f4.body.getD .skip) (retK (f4_cx R_f5 R_f14 R_f6 R_f15 R_f16 R_f7 R_f8 R_f9 R_f17 R_f18 R_f19 hR_f5 hR_f14 hR_f6 hR_f15 hR_f16 hR_f7 hR_f8 hR_f9 hR_f17 hR_f18 hR_f19) [] Try.f4.results.toList K) [] r1 (f4_S1 v) = f4_T1 R_f5 R_f14 R_f6 R_f15 R_f16 R_f7 R_f8 R_f9 R_f17 R_f18 R_f19 k (fun u => K (f4_out u))  (fun v => iter (loopB (f4_cx R_f5 R_f14 R_f6 R_f15 R_f16 R_f7 R_f8 R_f9 R_f17 R_f18 R_f19 hR_f5 hR_f14 hR_f6 hR_f15 hR_f16 hR_f7 hR_f8 hR_f9 hR_f17 hR_f18 hR_f19) k [.r, .r, .r, .r, .r, .r, .r, .r, .r, .r, .l, .r, .b] (Try.f4.body.getD .skip) (retK (f4_cx R_f5 R_f14 R_f6 R_f15 R_f16 R_f7 R_f8 R_f9 R_f17 R_f18 R_f19 hR_f5 hR_f14 hR_f6 hR_f15 hR_f16 hR_f7 hR_f8 hR_f9 hR_f17 hR_f18 hR_f19) [] Try.f4.results.toList K) []) k (f4_S2 v)) (fun v => r1 (f4_S1 v)) v := by kernel_rfl
theorem f4_L1_it {X : Type} (R_f5 : f5_R) (R_f14 : f14_R) (R_f6 : f6_R) (R_f15 : f15_R) (R_f16 : f16_R) (R_f7 : f7_R) (R_f8 : f8_R) (R_f9 : f9_R) (R_f17 : f17_R) (R_f18 : f18_R) (R_f19 : f19_R) (hR_f5 : AnsOk Try.prog 5 (f5_cOf R_f5)) (hR_f14 : AnsOk Try.prog 14 (f14_cOf R_f14)) (hR_f6 : AnsOk Try.prog 6 (f6_cOf R_f6)) (hR_f15 : AnsOk Try.prog 15 (f15_cOf R_f15)) (hR_f16 : AnsOk Try.prog 16 (f16_cOf R_f16)) (hR_f7 : AnsOk Try.prog 7 (f7_cOf R_f7)) (hR_f8 : AnsOk Try.prog 8 (f8_cOf R_f8)) (hR_f9 : AnsOk Try.prog 9 (f9_cOf R_f9)) (hR_f17 : AnsOk Try.prog 17 (f17_cOf R_f17)) (hR_f18 : AnsOk Try.prog 18 (f18_cOf R_f18)) (hR_f19 : AnsOk Try.prog 19 (f19_cOf R_f19)) (k : Nat) (K : Out → Option X)  : (fun v => iter (loopB (f4_cx R_f5 R_f14 R_f6 R_f15 R_f16 R_f7 R_f8 R_f9 R_f17 R_f18 R_f19 hR_f5 hR_f14 hR_f6 hR_f15 hR_f16 hR_f7 hR_f8 hR_f9 hR_f17 hR_f18 hR_f19) k [.r, .r, .r, .r, .r, .r, .r, .r, .l, .r, .b] (Try.f4.body.getD .skip) (retK (f4_cx R_f5 R_f14 R_f6 R_f15 R_f16 R_f7 R_f8 R_f9 R_f17 R_f18 R_f19 hR_f5 hR_f14 hR_f6 hR_f15 hR_f16 hR_f7 hR_f8 hR_f9 hR_f17 hR_f18 hR_f19) [] Try.f4.results.toList K) []) k (f4_S1 v)) = iterV (f4_L1 R_f5 R_f14 R_f6 R_f15 R_f16 R_f7 R_f8 R_f9 R_f17 R_f18 R_f19 k (fun u => K (f4_out u)) ) k :=
  iter_map (fun r1 v => (f4_L1_ev R_f5 R_f14 R_f6 R_f15 R_f16 R_f7 R_f8 R_f9 R_f17 R_f18 R_f19 hR_f5 hR_f14 hR_f6 hR_f15 hR_f16 hR_f7 hR_f8 hR_f9 hR_f17 hR_f18 hR_f19 k K  r1 v).trans (by rw [f4_L2_it R_f5 R_f14 R_f6 R_f15 R_f16 R_f7 R_f8 R_f9 R_f17 R_f18 R_f19 hR_f5 hR_f14 hR_f6 hR_f15 hR_f16 hR_f7 hR_f8 hR_f9 hR_f17 hR_f18 hR_f19 k K ]; rfl)) k
def f4_T {X : Type} (R_f5 : f5_R) (R_f14 : f14_R) (R_f6 : f6_R) (R_f15 : f15_R) (R_f16 : f16_R) (R_f7 : f7_R) (R_f8 : f8_R) (R_f9 : f9_R) (R_f17 : f17_R) (R_f18 : f18_R) (R_f19 : f19_R) (k : Nat) (K : Bool → Option X) (loop1 : Int × Int × Nat × (List CV) × Int × Int × (List CV) × Nat × Int × Nat × Int × Int × Bool × (List CV) × (List CV) × Int × Int → Option X) (x0 : Int) (x1 : Int) (x2 : Int) (x3 : List CV) (x4 : List CV) : Option X :=
R_f5 _ (fun u2 =>
(bif (!u2) then
K (false)
else
(bif (decide (x0 > 64)) then
K (true)
else
R_f14 _ (fun u4 =>
(bif (!u4) then
K (true)
else
(bif (decide ((Nat.cast ((List.length x3)) : Int) > 600)) then
K (true)
else
R_f6 _ (fun u5 =>
R_f15 _ (fun u6 =>
R_f16 _ (fun u7 =>
R_f7 _ (Sum.elim (fun u8 =>
K (true))
(fun u9 =>
loop1 (x1, x2, u7.1, x4, (Nat.cast ((List.length x4)) : Int), 0, u7.2.2.2.2.2.2.2.2.2, u9.1, u9.2.1, u9.2.2.1, u9.2.2.2.1, u9.2.2.2.2.1, u9.2.2.2.2.2.1, u9.2.2.2.2.2.2.1, u9.2.2.2.2.2.2.2.1, u9.2.2.2.2.2.2.2.2.1, u9.2.2.2.2.2.2.2.2.2))) (x1) (x2) (u7.2.1) (u7.2.2.1) (u7.2.2.2.1) (u7.2.2.2.2.1) (u7.2.2.2.2.2.1) (u7.2.2.2.2.2.2.1) (u7.2.2.2.2.2.2.2.1) (u7.2.2.2.2.2.2.2.2.1)) (u6.1) (u6.2.1) (u6.2.2.1) (u6.2.2.2.1) ((-1)) (false) (u6.2.2.2.2.1) (u6.2.2.2.2.2)) (x3) (u5.1) (u5.2.1) (u5.2.2.1) (0) ((-1)) (false) (u5.2.2.2.1) (u5.2.2.2.2)) (6) (x0)))) (x4)))) 
/-- "outpost/outpostlaw04.PartKeeps" -/
def f4_A (R_f5 : f5_R) (R_f14 : f14_R) (R_f6 : f6_R) (R_f15 : f15_R) (R_f16 : f16_R) (R_f7 : f7_R) (R_f8 : f8_R) (R_f9 : f9_R) (R_f17 : f17_R) (R_f18 : f18_R) (R_f19 : f19_R) (k : Nat) : f4_R := fun X K x0 x1 x2 x3 x4 => f4_T R_f5 R_f14 R_f6 R_f15 R_f16 R_f7 R_f8 R_f9 R_f17 R_f18 R_f19 k K (iterV (f4_L1 R_f5 R_f14 R_f6 R_f15 R_f16 R_f7 R_f8 R_f9 R_f17 R_f18 R_f19 k K) k) x0 x1 x2 x3 x4
set_option maxRecDepth 100000 in
theorem f4_ev' {X : Type} (R_f5 : f5_R) (R_f14 : f14_R) (R_f6 : f6_R) (R_f15 : f15_R) (R_f16 : f16_R) (R_f7 : f7_R) (R_f8 : f8_R) (R_f9 : f9_R) (R_f17 : f17_R) (R_f18 : f18_R) (R_f19 : f19_R) (hR_f5 : AnsOk Try.prog 5 (f5_cOf R_f5)) (hR_f14 : AnsOk Try.prog 14 (f14_cOf R_f14)) (hR_f6 : AnsOk Try.prog 6 (f6_cOf R_f6)) (hR_f15 : AnsOk Try.prog 15 (f15_cOf R_f15)) (hR_f16 : AnsOk Try.prog 16 (f16_cOf R_f16)) (hR_f7 : AnsOk Try.prog 7 (f7_cOf R_f7)) (hR_f8 : AnsOk Try.prog 8 (f8_cOf R_f8)) (hR_f9 : AnsOk Try.prog 9 (f9_cOf R_f9)) (hR_f17 : AnsOk Try.prog 17 (f17_cOf R_f17)) (hR_f18 : AnsOk Try.prog 18 (f18_cOf R_f18)) (hR_f19 : AnsOk Try.prog 19 (f19_cOf R_f19)) (k : Nat) (K : Out → Option X) (x0 : Int) (x1 : Int) (x2 : Int) (x3 : List CV) (x4 : List CV) : evFn (f4_cx R_f5 R_f14 R_f6 R_f15 R_f16 R_f7 R_f8 R_f9 R_f17 R_f18 R_f19 hR_f5 hR_f14 hR_f6 hR_f15 hR_f16 hR_f7 hR_f8 hR_f9 hR_f17 hR_f18 hR_f19) [] k Try.f4.ntmps Try.f4.results.toList (Try.f4.body.getD .skip) [(.v (CV.int .i64 x0)), (.v (CV.int .i64 x1)), (.v (CV.int .i64 x2)), (.sl true none x3), (.sl true (some 4) x4)] [] K = f4_T R_f5 R_f14 R_f6 R_f15 R_f16 R_f7 R_f8 R_f9 R_f17 R_f18 R_f19 k (fun u => K (f4_out u)) (fun v => iter (loopB (f4_cx R_f5 R_f14 R_f6 R_f15 R_f16 R_f7 R_f8 R_f9 R_f17 R_f18 R_f19 hR_f5 hR_f14 hR_f6 hR_f15 hR_f16 hR_f7 hR_f8 hR_f9 hR_f17 hR_f18 hR_f19) k [.r, .r, .r, .r, .r, .r, .r, .r, .l, .r, .b] (Try.f4.body.getD .skip) (retK (f4_cx R_f5 R_f14 R_f6 R_f15 R_f16 R_f7 R_f8 R_f9 R_f17 R_f18 R_f19 hR_f5 hR_f14 hR_f6 hR_f15 hR_f16 hR_f7 hR_f8 hR_f9 hR_f17 hR_f18 hR_f19) [] Try.f4.results.toList K) []) k (f4_S1 v)) x0 x1 x2 x3 x4 := by kernel_rfl
theorem f4_ev {X : Type} (R_f5 : f5_R) (R_f14 : f14_R) (R_f6 : f6_R) (R_f15 : f15_R) (R_f16 : f16_R) (R_f7 : f7_R) (R_f8 : f8_R) (R_f9 : f9_R) (R_f17 : f17_R) (R_f18 : f18_R) (R_f19 : f19_R) (hR_f5 : AnsOk Try.prog 5 (f5_cOf R_f5)) (hR_f14 : AnsOk Try.prog 14 (f14_cOf R_f14)) (hR_f6 : AnsOk Try.prog 6 (f6_cOf R_f6)) (hR_f15 : AnsOk Try.prog 15 (f15_cOf R_f15)) (hR_f16 : AnsOk Try.prog 16 (f16_cOf R_f16)) (hR_f7 : AnsOk Try.prog 7 (f7_cOf R_f7)) (hR_f8 : AnsOk Try.prog 8 (f8_cOf R_f8)) (hR_f9 : AnsOk Try.prog 9 (f9_cOf R_f9)) (hR_f17 : AnsOk Try.prog 17 (f17_cOf R_f17)) (hR_f18 : AnsOk Try.prog 18 (f18_cOf R_f18)) (hR_f19 : AnsOk Try.prog 19 (f19_cOf R_f19)) (k : Nat) (K : Out → Option X) (x0 : Int) (x1 : Int) (x2 : Int) (x3 : List CV) (x4 : List CV) : evFn (f4_cx R_f5 R_f14 R_f6 R_f15 R_f16 R_f7 R_f8 R_f9 R_f17 R_f18 R_f19 hR_f5 hR_f14 hR_f6 hR_f15 hR_f16 hR_f7 hR_f8 hR_f9 hR_f17 hR_f18 hR_f19) [] k Try.f4.ntmps Try.f4.results.toList (Try.f4.body.getD .skip) [(.v (CV.int .i64 x0)), (.v (CV.int .i64 x1)), (.v (CV.int .i64 x2)), (.sl true none x3), (.sl true (some 4) x4)] [] K = f4_A R_f5 R_f14 R_f6 R_f15 R_f16 R_f7 R_f8 R_f9 R_f17 R_f18 R_f19 k X (fun u => K (f4_out u)) x0 x1 x2 x3 x4 := (f4_ev' R_f5 R_f14 R_f6 R_f15 R_f16 R_f7 R_f8 R_f9 R_f17 R_f18 R_f19 hR_f5 hR_f14 hR_f6 hR_f15 hR_f16 hR_f7 hR_f8 hR_f9 hR_f17 hR_f18 hR_f19 k K x0 x1 x2 x3 x4).trans (by rw [f4_L1_it R_f5 R_f14 R_f6 R_f15 R_f16 R_f7 R_f8 R_f9 R_f17 R_f18 R_f19 hR_f5 hR_f14 hR_f6 hR_f15 hR_f16 hR_f7 hR_f8 hR_f9 hR_f17 hR_f18 hR_f19 k K]; rfl)
theorem f4_okA (R_f5 : f5_R) (R_f14 : f14_R) (R_f6 : f6_R) (R_f15 : f15_R) (R_f16 : f16_R) (R_f7 : f7_R) (R_f8 : f8_R) (R_f9 : f9_R) (R_f17 : f17_R) (R_f18 : f18_R) (R_f19 : f19_R) (hR_f5 : AnsOk Try.prog 5 (f5_cOf R_f5)) (hR_f14 : AnsOk Try.prog 14 (f14_cOf R_f14)) (hR_f6 : AnsOk Try.prog 6 (f6_cOf R_f6)) (hR_f15 : AnsOk Try.prog 15 (f15_cOf R_f15)) (hR_f16 : AnsOk Try.prog 16 (f16_cOf R_f16)) (hR_f7 : AnsOk Try.prog 7 (f7_cOf R_f7)) (hR_f8 : AnsOk Try.prog 8 (f8_cOf R_f8)) (hR_f9 : AnsOk Try.prog 9 (f9_cOf R_f9)) (hR_f17 : AnsOk Try.prog 17 (f17_cOf R_f17)) (hR_f18 : AnsOk Try.prog 18 (f18_cOf R_f18)) (hR_f19 : AnsOk Try.prog 19 (f19_cOf R_f19)) (k : Nat) : AnsOk Try.prog 4 (f4_cOf (f4_A R_f5 R_f14 R_f6 R_f15 R_f16 R_f7 R_f8 R_f9 R_f17 R_f18 R_f19 k)) := by
  intro X xs ns K x h
  unfold f4_cOf at h ⊢
  split at h
  · exact ans_main S (f4_Cok R_f5 R_f14 R_f6 R_f15 R_f16 R_f7 R_f8 R_f9 R_f17 R_f18 R_f19 hR_f5 hR_f14 hR_f6 hR_f15 hR_f16 hR_f7 hR_f8 hR_f9 hR_f17 hR_f18 hR_f19) Try.func4 (ent_of Try.func4 (by kernel_rfl) rfl) rfl (fun X K => f4_ev R_f5 R_f14 R_f6 R_f15 R_f16 R_f7 R_f8 R_f9 R_f17 R_f18 R_f19 hR_f5 hR_f14 hR_f6 hR_f15 hR_f16 hR_f7 hR_f8 hR_f9 hR_f17 hR_f18 hR_f19 k K _ _ _ _ _) h
  · cases h
/-- "outpost/outpostlaw04.PartKeeps" -/
def f4 {X : Type} (k : Nat) (K : Bool → Option X) (x0 : Int) (x1 : Int) (x2 : Int) (x3 : List CV) (x4 : List CV) : Option X := f4_A (fun X => @f5 X k) (fun X => @f14 X k) (fun X => @f6 X k) (fun X => @f15 X k) (fun X => @f16 X k) (fun X => @f7 X k) (fun X => @f8 X k) (fun X => @f9 X k) (fun X => @f17 X k) (fun X => @f18 X k) (fun X => @f19 X k) k X K x0 x1 x2 x3 x4
theorem f4_ok (k : Nat) : AnsOk Try.prog 4 (f4_cOf (fun X => @f4 X k)) := f4_okA (fun X => @f5 X k) (fun X => @f14 X k) (fun X => @f6 X k) (fun X => @f15 X k) (fun X => @f16 X k) (fun X => @f7 X k) (fun X => @f8 X k) (fun X => @f9 X k) (fun X => @f17 X k) (fun X => @f18 X k) (fun X => @f19 X k) (f5_ok k) (f14_ok k) (f6_ok k) (f15_ok k) (f16_ok k) (f7_ok k) (f8_ok k) (f9_ok k) (f17_ok k) (f18_ok k) (f19_ok k) k
end Go.Proofs.YtgkopcfbdcbjbaaD
