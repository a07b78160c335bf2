/- Functions of the program, as plain Lean functions: each with the proof that the evaluator computes it. (Printed by wip/dec/dec.py.) -/
import Derived.Test.YtbinkbfjedoolaaTN
import Derived.Test.YtbinkbfjedoolaaTO
import Derived.Test.YtbinkbfjedoolaaTR
import Derived.Test.YtbinkbfjedoolaaProg
import Derived.Test.YtbinkbfjedoolaaChecked
namespace Go.Proofs.YtbinkbfjedoolaaD
open Go Go.Proofs.YtbinkbfjedoolaaS Go.Proofs
set_option linter.unusedVariables false
set_option linter.unusedSimpArgs false
def rows : List (Nat × TI) := [
  (2, ⟨(.int .i64), 1, 8, .v (.int .i64 0)⟩),
  (3, ⟨(.int .i64), 1, 8, .v (.int .i64 0)⟩),
  (4, ⟨.bool, 1, 1, .v (.bool false)⟩),
  (5, ⟨(.int .u8), 1, 1, .v (.int .u8 0)⟩),
  (9, ⟨.str, 1, 16, .v (.str ⟨#[]⟩)⟩),
  (22, ⟨(.slice 51), 1, 24, .nil0 (some 2)⟩),
  (25, ⟨(.slice 5), 1, 24, .nil0 none⟩),
  (26, ⟨(.int .i64), 1, 8, .v (.int .i64 0)⟩),
  (46, ⟨(.slice 25), 1, 24, .nil0 none⟩),
  (51, ⟨(.struct [(0, 3), (1, 25)]), 2, 32, .agg [.v (.int .i64 0), .nil0 none]⟩),
  (58, ⟨(.int .u64), 1, 8, .v (.int .u64 0)⟩),
  (60, ⟨(.ptr 62), 1, 8, .v .nilp⟩),
  (62, ⟨(.struct [(0, 25), (1, 3)]), 2, 32, .agg [.nil0 none, .v (.int .i64 0)]⟩)]
set_option maxRecDepth 100000 in
theorem rows_ok : rowsAre Try.prog rows = true := by kernel_rfl
def cmps : List Nat := []
theorem cmps_ok : cmpsAre Try.prog cmps = true := by kernel_rfl
def S : Seat Try.prog := ⟨rows, rows_ok, Try.checked.mixed, cmps, cmps_ok⟩
def md (g : FuncId) (i : Nat) : Nat := (bif Nat.beq g 56 && Nat.beq i 0 then 2 else (bif Nat.beq g 55 && Nat.beq i 0 then 2 else (bif Nat.beq g 53 && Nat.beq i 0 then 2 else (bif Nat.beq g 52 && Nat.beq i 0 then 2 else (bif Nat.beq g 49 && Nat.beq i 0 then 2 else (bif Nat.beq g 43 && Nat.beq i 0 then 2 else (bif Nat.beq g 37 && Nat.beq i 0 then 2 else (bif Nat.beq g 33 && Nat.beq i 0 then 2 else (bif Nat.beq g 13 && Nat.beq i 0 then 1 else 0)))))))))
def setRun {X : Type} (e : CV) (j n : Nat) (cs : List CV) (K : CV → Option X) : Option X := match e with
  | .agg ds => grd (Nat.ble (j + n) ds.length) (K (.agg (putRun ds j cs)))
  | _ => none
def setCell {X : Type} (e : CV) (j : Nat) (c : CV) (K : CV → Option X) : Option X := match e with
  | .agg ds => grd (Nat.blt j ds.length) (K (.agg (ds.set j c)))
  | _ => none
abbrev f35_R : Type 1 := (X : Type) → (Bool → Option X) → CV → Int → Option X
def f35_out (u : Bool) : Out := ⟨(.v (CV.bool u)), []⟩
def f35_cOf (R : f35_R) : FnC := fun X xs ns K => match xs, ns with
  | [(.v x0), (.bptr none (CV.int .i64 x1) 0)], [] => R X (fun u => K (f35_out u)) x0 x1
  | _, _ => none
def f35_plan : Nat → Option (List Nat × List Wk)
  | 0 => some ([0, 1], [])
  | 1 => some ([1, 2], [])
  | _ => none
def f35_C : Fns := noC
theorem f35_Cok : CsOk Try.prog (f35_C) := noC_ok
def f35_cx : Cx := mkCx (tabOf rows) (f35_C) md (cmpIn cmps) f35_plan (f35_Cok)
def f35_T {X : Type} (k : Nat) (K : Bool → Option X)  (x0 : CV) (x1 : Int) : Option X :=
grd (CV.isA 2 x0) <|
grd (CV.isI .i64 (CV.cellD 0 x0)) <|
grd (CV.isL none (CV.cellD 1 x0)) <|
K ((decide ((CV.toI (CV.cellD 0 x0)) > x1)))
/-- "outpost/opt.Add$1" -/
def f35_A (k : Nat) : f35_R := fun X K x0 x1 => f35_T k K  x0 x1
set_option maxRecDepth 100000 in
theorem f35_ev' {X : Type} (k : Nat) (K : Out → Option X) (x0 : CV) (x1 : Int) : evFn (f35_cx) [] k Try.f35.ntmps Try.f35.results.toList (Try.f35.body.getD .skip) [(.v x0), (.bptr none (CV.int .i64 x1) 0)] [] K = f35_T k (fun u => K (f35_out u)) x0 x1 := by kernel_rfl
theorem f35_ev {X : Type} (k : Nat) (K : Out → Option X) (x0 : CV) (x1 : Int) : evFn (f35_cx) [] k Try.f35.ntmps Try.f35.results.toList (Try.f35.body.getD .skip) [(.v x0), (.bptr none (CV.int .i64 x1) 0)] [] K = f35_A k X (fun u => K (f35_out u)) x0 x1 := (f35_ev' k K x0 x1).trans rfl
theorem f35_okA (k : Nat) : AnsOk Try.prog 35 (f35_cOf (f35_A k)) := by
  intro X xs ns K x h
  unfold f35_cOf at h ⊢
  split at h
  · exact ans_main S (f35_Cok) Try.func35 (ent_of Try.func35 (by kernel_rfl) rfl) rfl (fun X K => f35_ev k K _ _) h
  · cases h
/-- "outpost/opt.Add$1" -/
def f35 {X : Type} (k : Nat) (K : Bool → Option X) (x0 : CV) (x1 : Int) : Option X := f35_A k X K x0 x1
theorem f35_ok (k : Nat) : AnsOk Try.prog 35 (f35_cOf (fun X => @f35 X k)) := f35_okA k
abbrev f34_R : Type 1 := (X : Type) → (Int → Option X) → (List CV) → Int → Option X
def f34_out (u : Int) : Out := ⟨(.v (CV.int .i64 u)), []⟩
def f34_cOf (R : f34_R) : FnC := fun X xs ns K => match xs, ns with
  | [(.sl false (some 2) x0), (.fn 35 [(.bptr none (CV.int .i64 x1) 0)])], [] => R X (fun u => K (f34_out u)) x0 x1
  | _, _ => none
def f34_is (xs : List AVal) (ns : Nodes) : Bool := match xs, ns with
  | [(.sl false (some 2) x0), (.fn 35 [(.bptr none (CV.int .i64 x1) 0)])], [] => true
  | _, _ => false
def f34_plan : Nat → Option (List Nat × List Wk)
  | 0 => some ([0, 1], [])
  | 1 => some ([0, 1], [])
  | 2 => some ([0, 1, 7, 8], [])
  | 3 => some ([0, 1, 7, 8], [])
  | 4 => some ([0, 1, 5, 7, 8], [])
  | 5 => some ([5], [])
  | 6 => some ([0, 1, 7, 8], [])
  | 7 => some ([], [])
  | _ => none
def f34_C (R_f35 : f35_R) : Fns := (orC 35 (f35_cOf R_f35) noC)
theorem f34_Cok (R_f35 : f35_R) (hR_f35 : AnsOk Try.prog 35 (f35_cOf R_f35)) : CsOk Try.prog (f34_C R_f35) := (orC_ok hR_f35 noC_ok)
def f34_cx (R_f35 : f35_R) (hR_f35 : AnsOk Try.prog 35 (f35_cOf R_f35)) : Cx := mkCx (tabOf rows) (f34_C R_f35) md (cmpIn cmps) f34_plan (f34_Cok R_f35 hR_f35)
def f34_S1 (v : (List CV) × Int × Int × Int) : St := ⟨[(.sl false (some 2) v.1), (.fn 35 [(.bptr none (CV.int .i64 v.2.1) 0)]), .undef, .undef, .undef, .undef, .undef, (.v (CV.int .i64 v.2.2.1)), (.v (CV.int .i64 v.2.2.2)), .undef, .undef, .undef, .undef, .undef, .undef, .undef, .undef, .undef, .undef], []⟩
def f34_T1 {X : Type} (R_f35 : f35_R) (k : Nat) (K : Int → Option X)   (rec1 : (List CV) × Int × Int × Int → Option X) (v4_0 : (List CV) × Int × Int × Int) : Option X :=
(bif (decide (v4_0.2.2.2 < v4_0.2.2.1)) then
grd (decide (0 ≤ v4_0.2.2.2)) <|
Option.bind (v4_0.1)[(Int.toNat v4_0.2.2.2)]? fun e8 =>
R_f35 _ (fun u9 =>
(bif u9 then
K (v4_0.2.2.2)
else
rec1 (v4_0.1, v4_0.2.1, v4_0.2.2.1, (IntKind.wrap .i64 (v4_0.2.2.2 + 1))))) (e8) (v4_0.2.1)
else
K ((-1)))
def f34_L1 {X : Type} (R_f35 : f35_R) (k : Nat) (K : Int → Option X)  (rec1 : (List CV) × Int × Int × Int → Option X) (v : (List CV) × Int × Int × Int) : Option X := f34_T1 R_f35 k K   rec1 v
set_option maxRecDepth 100000 in
theorem f34_L1_ev {X : Type} (R_f35 : f35_R) (hR_f35 : AnsOk Try.prog 35 (f35_cOf R_f35)) (k : Nat) (K : Out → Option X)  (r1 : St → Option X) (v : (List CV) × Int × Int × Int) : loopB (f34_cx R_f35 hR_f35) k [.r, .l, .r, .b] (Try.f34.body.getD .skip) (retK (f34_cx R_f35 hR_f35) [] Try.f34.results.toList K) [] r1 (f34_S1 v) = f34_T1 R_f35 k (fun u => K (f34_out u))   (fun v => r1 (f34_S1 v)) v := by kernel_rfl
theorem f34_L1_it {X : Type} (R_f35 : f35_R) (hR_f35 : AnsOk Try.prog 35 (f35_cOf R_f35)) (k : Nat) (K : Out → Option X)  : (fun v => iter (loopB (f34_cx R_f35 hR_f35) k [.r, .l, .r, .b] (Try.f34.body.getD .skip) (retK (f34_cx R_f35 hR_f35) [] Try.f34.results.toList K) []) k (f34_S1 v)) = iterV (f34_L1 R_f35 k (fun u => K (f34_out u)) ) k :=
  iter_map (fun r1 v => (f34_L1_ev R_f35 hR_f35 k K  r1 v).trans rfl) k
def f34_T {X : Type} (R_f35 : f35_R) (k : Nat) (K : Int → Option X) (loop1 : (List CV) × Int × Int × Int → Option X) (x0 : List CV) (x1 : Int) : Option X :=
loop1 (x0, x1, (Nat.cast ((List.length x0)) : Int), 0)
/-- "slices.IndexFunc[[]outpost/api.Opt,outpost/api.Opt]" -/
def f34_A (R_f35 : f35_R) (k : Nat) : f34_R := fun X K x0 x1 => f34_T R_f35 k K (iterV (f34_L1 R_f35 k K) k) x0 x1
set_option maxRecDepth 100000 in
theorem f34_ev' {X : Type} (R_f35 : f35_R) (hR_f35 : AnsOk Try.prog 35 (f35_cOf R_f35)) (k : Nat) (K : Out → Option X) (x0 : List CV) (x1 : Int) : evFn (f34_cx R_f35 hR_f35) [] k Try.f34.ntmps Try.f34.results.toList (Try.f34.body.getD .skip) [(.sl false (some 2) x0), (.fn 35 [(.bptr none (CV.int .i64 x1) 0)])] [] K = f34_T R_f35 k (fun u => K (f34_out u)) (fun v => iter (loopB (f34_cx R_f35 hR_f35) k [.r, .l, .r, .b] (Try.f34.body.getD .skip) (retK (f34_cx R_f35 hR_f35) [] Try.f34.results.toList K) []) k (f34_S1 v)) x0 x1 := by kernel_rfl
theorem f34_ev {X : Type} (R_f35 : f35_R) (hR_f35 : AnsOk Try.prog 35 (f35_cOf R_f35)) (k : Nat) (K : Out → Option X) (x0 : List CV) (x1 : Int) : evFn (f34_cx R_f35 hR_f35) [] k Try.f34.ntmps Try.f34.results.toList (Try.f34.body.getD .skip) [(.sl false (some 2) x0), (.fn 35 [(.bptr none (CV.int .i64 x1) 0)])] [] K = f34_A R_f35 k X (fun u => K (f34_out u)) x0 x1 := (f34_ev' R_f35 hR_f35 k K x0 x1).trans (by rw [f34_L1_it R_f35 hR_f35 k K]; rfl)
theorem f34_okA (R_f35 : f35_R) (hR_f35 : AnsOk Try.prog 35 (f35_cOf R_f35)) (k : Nat) : AnsOk Try.prog 34 (f34_cOf (f34_A R_f35 k)) := by
  intro X xs ns K x h
  unfold f34_cOf at h ⊢
  split at h
  · exact ans_main S (f34_Cok R_f35 hR_f35) Try.func34 (ent_of Try.func34 (by kernel_rfl) rfl) rfl (fun X K => f34_ev R_f35 hR_f35 k K _ _) h
  · cases h
/-- "slices.IndexFunc[[]outpost/api.Opt,outpost/api.Opt]" -/
def f34 {X : Type} (k : Nat) (K : Int → Option X) (x0 : List CV) (x1 : Int) : Option X := f34_A (fun X => @f35 X k) k X K x0 x1
theorem f34_ok (k : Nat) : AnsOk Try.prog 34 (f34_cOf (fun X => @f34 X k)) := f34_okA (fun X => @f35 X k) (f35_ok k) k
def f38_plan : Nat → Option (List Nat × List Wk)
  | 0 => some ([0], [])
  | 1 => some ([0], [])
  | 2 => some ([], [])
  | 3 => some ([0], [])
  | _ => none
def f38_cx : Cx := mkCx (tabOf rows) noC md (cmpIn cmps) f38_plan (noC_ok (P := Try.prog))
/-- "slices.Clone[[]byte,byte]" -/
def f38 {X : Type} (k : Nat) (K : List CV → Option X) (x0 : List CV) : Option X := grd (decide ((0 + List.length x0) * 1 ≤ 140737488355328)) (K x0)
def f38_out (u : List CV) : Out := ⟨.osl [2000] none 0 (List.length u), [([2000], .row false none u)]⟩
set_option maxRecDepth 100000 in
theorem f38_fn (x0 : List CV) (hl : (decide ((0 + List.length x0) * 1 ≤ 140737488355328)) = true) : FnOk Try.prog 38 [.sl false none x0] [] (f38_out x0) := by
  refine nilsplit (cx := f38_cx) (xs := x0) (p := false) (sh := none) (fuel := 1) (ws := [⟨0, [], some [2000]⟩]) (tabOf_tabOk S.hr) (tabOf_noOther S.hr) (CsOk.fns (noC_ok (P := Try.prog)) (cmpsAre_ok cmps_ok)) S.hm Try.func38 rfl rfl Try.underlying25 (s1 := ⟨[(.sl false none x0), .undef, (.nil0 none), .undef, .undef, .undef, .undef, .undef], []⟩) (s2 := ⟨[(.sl false none x0), .undef, .undef, .undef, .undef, .undef, .undef, .undef], []⟩) (s3 := ⟨[(.sl false none x0), .undef, .undef, (.sl false none x0), .undef, .undef, .undef, .undef], []⟩) ?_ ?_ ?_ rfl ?_ (fun h => ?_) ⟨rfl, rfl⟩
  · kernel_rfl
  · kernel_rfl
  · kernel_rfl
  · refine Eq.trans (b := grd (decide ((0 + List.length x0) * 1 ≤ 140737488355328)) (some ⟨.osl [2000] none 0 (0 + List.length x0), [([2000], .row false none (List.take (0 + (0 + List.length x0)) (List.take 0 [] ++ x0)))]⟩)) (by kernel_rfl) ?_
    rw [hl]
    simp [grd, f38_out]
  · subst h
    kernel_rfl
abbrev f38_R : Type 1 := (X : Type) → (List CV → Option X) → List CV → Option X
def f38_cOf (R : f38_R) : FnC := fun X xs ns K => match xs, ns with
  | [.sl false none x0], [] => R X (fun u => K (f38_out u)) x0
  | _, _ => none
theorem f38_ok (k : Nat) : AnsOk Try.prog 38 (f38_cOf (fun X => @f38 X k)) := by
  intro X xs ns K x h
  unfold f38_cOf at h ⊢
  split at h
  · next x0 =>
    obtain ⟨h1, h2⟩ := grd_some (show grd (decide ((0 + List.length x0) * 1 ≤ 140737488355328)) (K (f38_out x0)) = some x from h)
    exact ⟨trivial, _, (f38_fn x0 h1).toX (ent_of Try.func38 (by kernel_rfl) rfl), h2, fun Y K' => by show grd _ _ = _; rw [h1]; rfl⟩
  · cases h
abbrev f36_R : Type 1 := (X : Type) → (Int × Nat × (List CV) → Option X) → CV → Option X
def f36_out (u : Int × Nat × (List CV)) : Out := ⟨(.agg [(.v (CV.int .i64 u.1)), (.osl [1, 2000] none 0 u.2.1)]), [([1, 2000], (.row false none u.2.2))]⟩
def f36_cOf (R : f36_R) : FnC := fun X xs ns K => match xs, ns with
  | [(.v x0)], [] => R X (fun u => K (f36_out u)) x0
  | _, _ => none
def f36_plan : Nat → Option (List Nat × List Wk)
  | 0 => some ([0], [])
  | 1 => some ([1, 2], [])
  | _ => none
def f36_C (R_f38 : f38_R) : Fns := (orC 38 (f38_cOf R_f38) noC)
theorem f36_Cok (R_f38 : f38_R) (hR_f38 : AnsOk Try.prog 38 (f38_cOf R_f38)) : CsOk Try.prog (f36_C R_f38) := (orC_ok hR_f38 noC_ok)
def f36_cx (R_f38 : f38_R) (hR_f38 : AnsOk Try.prog 38 (f38_cOf R_f38)) : Cx := mkCx (tabOf rows) (f36_C R_f38) md (cmpIn cmps) f36_plan (f36_Cok R_f38 hR_f38)
def f36_T {X : Type} (R_f38 : f38_R) (k : Nat) (K : Int × Nat × (List CV) → Option X)  (x0 : CV) : Option X :=
grd (CV.isA 2 x0) <|
grd (CV.isI .i64 (CV.cellD 0 x0)) <|
grd (CV.isL none (CV.cellD 1 x0)) <|
R_f38 _ (fun u1 =>
K ((CV.toI (CV.cellD 0 x0)), (List.length u1), (List.take (0 + (List.length u1)) u1))) ((CV.toL (CV.cellD 1 x0)))
/-- "outpost/opt.copied" -/
def f36_A (R_f38 : f38_R) (k : Nat) : f36_R := fun X K x0 => f36_T R_f38 k K  x0
set_option maxRecDepth 100000 in
theorem f36_ev' {X : Type} (R_f38 : f38_R) (hR_f38 : AnsOk Try.prog 38 (f38_cOf R_f38)) (k : Nat) (K : Out → Option X) (x0 : CV) : evFn (f36_cx R_f38 hR_f38) [] k Try.f36.ntmps Try.f36.results.toList (Try.f36.body.getD .skip) [(.v x0)] [] K = f36_T R_f38 k (fun u => K (f36_out u)) x0 := by kernel_rfl
theorem f36_ev {X : Type} (R_f38 : f38_R) (hR_f38 : AnsOk Try.prog 38 (f38_cOf R_f38)) (k : Nat) (K : Out → Option X) (x0 : CV) : evFn (f36_cx R_f38 hR_f38) [] k Try.f36.ntmps Try.f36.results.toList (Try.f36.body.getD .skip) [(.v x0)] [] K = f36_A R_f38 k X (fun u => K (f36_out u)) x0 := (f36_ev' R_f38 hR_f38 k K x0).trans rfl
theorem f36_okA (R_f38 : f38_R) (hR_f38 : AnsOk Try.prog 38 (f38_cOf R_f38)) (k : Nat) : AnsOk Try.prog 36 (f36_cOf (f36_A R_f38 k)) := by
  intro X xs ns K x h
  unfold f36_cOf at h ⊢
  split at h
  · exact ans_main S (f36_Cok R_f38 hR_f38) Try.func36 (ent_of Try.func36 (by kernel_rfl) rfl) rfl (fun X K => f36_ev R_f38 hR_f38 k K _) h
  · cases h
/-- "outpost/opt.copied" -/
def f36 {X : Type} (k : Nat) (K : Int × Nat × (List CV) → Option X) (x0 : CV) : Option X := f36_A (fun X => @f38 X k) k X K x0
theorem f36_ok (k : Nat) : AnsOk Try.prog 36 (f36_cOf (fun X => @f36 X k)) := f36_okA (fun X => @f38 X k) (f38_ok k) k
abbrev f37e_R : Type 1 := (X : Type) → (Nat × (List CV) → Option X) → Nat → Int → (List CV) → (List CV) → Option X
def f37e_out (u : Nat × (List CV)) : Out := ⟨(.osl [2000] (some 2) 0 u.1), [([2000], (.row false (some 2) u.2))]⟩
def f37e_cOf (R : f37e_R) : FnC := fun X xs ns K => match xs, ns with
  | [(.osl [1000] (some 2) 0 x0), (.v (CV.int .i64 x1)), (.sl false (some 2) x2)], [([1000], (.row false (some 2) x3))] => R X (fun u => K (f37e_out u)) x0 x1 x2 x3
  | _, _ => none
def f37e_plan : Nat → Option (List Nat × List Wk)
  | 0 => some ([0, 1, 2], [])
  | 1 => some ([0, 1, 2], [])
  | 2 => some ([0, 1, 2], [])
  | 3 => some ([0, 1, 2, 7], [])
  | 4 => some ([0], [])
  | 5 => some ([0, 1, 2, 7], [])
  | 6 => some ([0, 1, 2, 7, 8], [])
  | 7 => some ([0, 2], [])
  | 8 => some ([0, 1, 2, 7, 8], [])
  | 9 => some ([0, 1, 2, 7, 8], [])
  | 10 => some ([0, 1, 2, 7, 9], [])
  | 11 => some ([0, 1, 7, 9], [])
  | 12 => some ([9], [])
  | 13 => some ([0, 1, 2, 7, 8], [])
  | 14 => some ([0, 1, 2, 7, 8], [])
  | 15 => some ([0, 1, 2, 7], [])
  | 16 => some ([0, 1, 2], [])
  | 17 => some ([0], [])
  | 18 => some ([0, 1, 2, 7, 8], [])
  | 19 => some ([0, 1, 7], [])
  | 20 => some ([0], [])
  | _ => none
def f37e_C : Fns := noC
theorem f37e_Cok : CsOk Try.prog (f37e_C) := noC_ok
def f37e_cx : Cx := mkCx (tabOf rows) (f37e_C) md (cmpIn cmps) f37e_plan (f37e_Cok)
def f37e_T {X : Type} (k : Nat) (K : Nat × (List CV) → Option X)  (x0 : Nat) (x1 : Int) (x2 : List CV) (x3 : List CV) : Option X :=
grd (decide (0 ≤ x1)) <|
grd (decide (x1 ≤ (Nat.cast (x0) : Int))) <|
grd (decide ((Nat.cast (x0) : Int) ≤ (Nat.cast (x0) : Int))) <|
(bif ((Nat.cast ((List.length x2)) : Int) == 0) then
K (x0, (List.take (0 + x0) x3))
else
(bif (x1 == (Nat.cast (x0) : Int)) then
grd (decide ((x0 + (List.length x2)) * 32 ≤ 140737488355328)) <|
K ((x0 + (List.length x2)), (List.take (0 + (x0 + (List.length x2))) ((List.take x0 x3) ++ x2)))
else
none))
/-- "slices.Insert[[]outpost/api.Opt,outpost/api.Opt]" -/
def f37e_A (k : Nat) : f37e_R := fun X K x0 x1 x2 x3 => f37e_T k K  x0 x1 x2 x3
set_option maxRecDepth 100000 in
theorem f37e_ev' {X : Type} (k : Nat) (K : Out → Option X) (x0 : Nat) (x1 : Int) (x2 : List CV) (x3 : List CV) : evFn (f37e_cx) [] k Try.f37.ntmps Try.f37.results.toList (Try.f37.body.getD .skip) [(.osl [1000] (some 2) 0 x0), (.v (CV.int .i64 x1)), (.sl false (some 2) x2)] [([1000], (.row false (some 2) x3))] K = f37e_T k (fun u => K (f37e_out u)) x0 x1 x2 x3 := by kernel_rfl
theorem f37e_ev {X : Type} (k : Nat) (K : Out → Option X) (x0 : Nat) (x1 : Int) (x2 : List CV) (x3 : List CV) : evFn (f37e_cx) [] k Try.f37.ntmps Try.f37.results.toList (Try.f37.body.getD .skip) [(.osl [1000] (some 2) 0 x0), (.v (CV.int .i64 x1)), (.sl false (some 2) x2)] [([1000], (.row false (some 2) x3))] K = f37e_A k X (fun u => K (f37e_out u)) x0 x1 x2 x3 := (f37e_ev' k K x0 x1 x2 x3).trans rfl
theorem f37e_okA (k : Nat) : AnsOk Try.prog 37 (f37e_cOf (f37e_A k)) := by
  intro X xs ns K x h
  unfold f37e_cOf at h ⊢
  split at h
  · exact ans_main S (f37e_Cok) Try.func37 (ent_of Try.func37 (by kernel_rfl) rfl) rfl (fun X K => f37e_ev k K _ _ _ _) h
  · cases h
/-- "slices.Insert[[]outpost/api.Opt,outpost/api.Opt]" -/
def f37e {X : Type} (k : Nat) (K : Nat × (List CV) → Option X) (x0 : Nat) (x1 : Int) (x2 : List CV) (x3 : List CV) : Option X := f37e_A k X K x0 x1 x2 x3
theorem f37e_ok (k : Nat) : AnsOk Try.prog 37 (f37e_cOf (fun X => @f37e X k)) := f37e_okA k
def f37_s1 (x0 j : Nat) (y : CV) (x3 : List CV) : St := ⟨[(.osl [1000] (some 2) 0 x0), (.v (CV.int .i64 (Nat.cast (j) : Int))), (.sl false (some 2) [y]), .undef, .undef, .undef, .undef, (.v (CV.int .i64 1)), (.v (CV.int .i64 (Nat.cast (x0) : Int))), .undef, .undef, .undef, .undef, .undef, .undef, .undef, .undef, .undef, .undef, .undef, (.v (CV.int .i64 (Nat.cast (j) : Int))), (.v (CV.int .i64 (Nat.cast (x0) : Int))), (.v (CV.bool ((Nat.cast (j) : Int) == (Nat.cast (x0) : Int)))), .undef, .undef, .undef, .undef, .undef, .undef, .undef, .undef, .undef, .undef, .undef, .undef, .undef, .undef, .undef, .undef, .undef, .undef, .undef, .undef, .undef, .undef, .undef, .undef, .undef, .undef, .undef, .undef, .undef, .undef, .undef, .undef, .undef, .undef, .undef, .undef, .undef, .undef, .undef, .undef, .undef, .undef, .undef, .undef, .undef, .undef, .undef, .undef, .undef, .undef, .undef, .undef, .undef, .undef, .undef, .undef, .undef, .undef, .undef, .undef, .undef, .undef, .undef, .undef, .undef, .undef, .undef, .undef, .undef, .undef, .undef, .undef], [([1000], (.row false (some 2) x3))]⟩
def f37_s2 (x0 j : Nat) (y : CV) (x3 : List CV) : St := ⟨[(.osl [1000] (some 2) 0 x0), (.v (CV.int .i64 (Nat.cast (j) : Int))), (.sl false (some 2) [y]), .undef, .undef, .undef, .undef, (.v (CV.int .i64 1)), (.v (CV.int .i64 (Nat.cast (x0) : Int))), .undef, .undef, .undef, .undef, .undef, .undef, .undef, .undef, .undef, .undef, .undef, .undef, .undef, .undef, .undef, .undef, .undef, .undef, .undef, .undef, .undef, .undef, .undef, .undef, .undef, .undef, .undef, .undef, .undef, .undef, .undef, .undef, .undef, .undef, .undef, .undef, .undef, .undef, .undef, .undef, .undef, .undef, .undef, .undef, .undef, .undef, .undef, .undef, .undef, .undef, .undef, .undef, .undef, .undef, .undef, .undef, .undef, .undef, .undef, .undef, .undef, .undef, .undef, .undef, .undef, .undef, .undef, .undef, .undef, .undef, .undef, .undef, .undef, .undef, .undef, .undef, .undef, .undef, .undef, .undef, .undef, .undef, .undef, .undef, .undef, .undef], [([1000], (.row false (some 2) x3))]⟩
def f37_s3 (x0 j : Nat) (y : CV) (x3 : List CV) : St := ⟨[(.osl [1000] (some 2) 0 x0), (.v (CV.int .i64 (Nat.cast (j) : Int))), (.sl false (some 2) [y]), .undef, .undef, .undef, .undef, (.v (CV.int .i64 1)), (.v (CV.int .i64 (Nat.cast (x0) : Int))), .undef, .undef, .undef, .undef, .undef, .undef, .undef, .undef, .undef, .undef, .undef, .undef, .undef, .undef, .undef, .undef, .undef, (.v (CV.int .i64 (Nat.cast (x0) : Int))), (.v (CV.int .i64 1)), (.v (CV.int .i64 (IntKind.wrap .i64 ((Nat.cast (x0) : Int) + 1)))), .undef, .undef, .undef, .undef, .undef, .undef, .undef, .undef, .undef, .undef, .undef, .undef, .undef, .undef, .undef, .undef, .undef, .undef, .undef, .undef, .undef, .undef, .undef, .undef, .undef, .undef, .undef, .undef, .undef, .undef, .undef, .undef, .undef, .undef, .undef, .undef, .undef, .undef, .undef, .undef, .undef, .undef, .undef, .undef, .undef, .undef, .undef, .undef, .undef, .undef, .undef, .undef, .undef, .undef, .undef, .undef, .undef, .undef, .undef, .undef, .undef, .undef, .undef, .undef, .undef, .undef], [([1000], (.row false (some 2) x3))]⟩
def f37_s4 (x0 j : Nat) (y : CV) (x3 : List CV) : St := ⟨[(.osl [1000] (some 2) 0 x0), (.v (CV.int .i64 (Nat.cast (j) : Int))), (.sl false (some 2) [y]), .undef, .undef, .undef, .undef, (.v (CV.int .i64 1)), (.v (CV.int .i64 (Nat.cast (x0) : Int))), .undef, .undef, .undef, .undef, .undef, .undef, .undef, .undef, .undef, .undef, .undef, .undef, .undef, .undef, .undef, .undef, .undef, (.v (CV.int .i64 (Nat.cast (x0) : Int))), (.v (CV.int .i64 1)), (.v (CV.int .i64 (IntKind.wrap .i64 ((Nat.cast (x0) : Int) + 1)))), (.osl [1000] (some 2) 0 x0), .undef, .undef, .undef, .undef, .undef, .undef, .undef, .undef, .undef, .undef, .undef, .undef, .undef, .undef, .undef, .undef, .undef, .undef, .undef, .undef, .undef, .undef, .undef, .undef, .undef, .undef, .undef, .undef, .undef, .undef, .undef, .undef, .undef, .undef, .undef, .undef, .undef, .undef, .undef, .undef, .undef, .undef, .undef, .undef, .undef, .undef, .undef, .undef, .undef, .undef, .undef, .undef, .undef, .undef, .undef, .undef, .undef, .undef, .undef, .undef, .undef, .undef, .undef, .undef, .undef], [([1000], (.row false (some 2) x3))]⟩
def f37_s6 (x0 j : Nat) (y : CV) (x3 : List CV) (c : Nat) : St := ⟨[(.osl [1000] (some 2) 0 x0), (.v (CV.int .i64 (Nat.cast (j) : Int))), (.sl false (some 2) [y]), .undef, .undef, .undef, .undef, (.v (CV.int .i64 1)), (.v (CV.int .i64 (Nat.cast (x0) : Int))), .undef, .undef, .undef, .undef, .undef, .undef, .undef, .undef, .undef, .undef, .undef, .undef, .undef, .undef, .undef, .undef, .undef, (.v (CV.int .i64 (Nat.cast (x0) : Int))), (.v (CV.int .i64 1)), (.v (CV.int .i64 (IntKind.wrap .i64 ((Nat.cast (x0) : Int) + 1)))), (.osl [1000] (some 2) 0 x0), (.v (CV.int .i64 (Nat.cast (c) : Int))), (.v (CV.bool (decide ((IntKind.wrap .i64 ((Nat.cast (x0) : Int) + 1)) > (Nat.cast (c) : Int))))), .undef, .undef, .undef, .undef, .undef, .undef, .undef, .undef, .undef, .undef, .undef, .undef, .undef, .undef, .undef, .undef, .undef, .undef, .undef, .undef, .undef, .undef, .undef, .undef, .undef, .undef, .undef, .undef, .undef, .undef, .undef, .undef, .undef, .undef, .undef, .undef, .undef, .undef, .undef, .undef, .undef, .undef, .undef, .undef, .undef, .undef, .undef, .undef, .undef, .undef, .undef, .undef, .undef, .undef, .undef, .undef, .undef, .undef, .undef, .undef, .undef, .undef, .undef], [([1000], (.row false (some 2) x3))]⟩
def f37_s7 (x0 j : Nat) (y : CV) (x3 : List CV) : St := ⟨[(.osl [1000] (some 2) 0 x0), (.v (CV.int .i64 (Nat.cast (j) : Int))), (.sl false (some 2) [y]), .undef, .undef, .undef, .undef, (.v (CV.int .i64 1)), (.v (CV.int .i64 (Nat.cast (x0) : Int))), .undef, .undef, .undef, .undef, .undef, .undef, .undef, .undef, .undef, .undef, .undef, .undef, .undef, .undef, .undef, .undef, .undef, .undef, .undef, .undef, .undef, .undef, .undef, .undef, .undef, .undef, .undef, .undef, .undef, .undef, .undef, .undef, .undef, .undef, .undef, .undef, .undef, .undef, .undef, .undef, .undef, .undef, .undef, .undef, .undef, .undef, .undef, .undef, .undef, .undef, .undef, .undef, .undef, .undef, .undef, .undef, .undef, .undef, .undef, .undef, .undef, .undef, .undef, .undef, .undef, .undef, .undef, .undef, .undef, .undef, .undef, .undef, .undef, .undef, .undef, .undef, .undef, .undef, .undef, .undef, .undef, .undef, .undef, .undef, .undef, .undef], [([1000], (.row false (some 2) x3))]⟩
def f37_s8 (x0 j : Nat) (y : CV) (x3 : List CV) : St := ⟨[(.osl [1000] (some 2) 0 x0), (.v (CV.int .i64 (Nat.cast (j) : Int))), (.sl false (some 2) [y]), .undef, .undef, .undef, .undef, (.v (CV.int .i64 1)), (.v (CV.int .i64 (Nat.cast (x0) : Int))), .undef, .undef, .undef, .undef, .undef, .undef, .undef, .undef, .undef, .undef, .undef, .undef, .undef, .undef, .undef, .undef, .undef, .undef, .undef, .undef, .undef, .undef, .undef, (.osl [1000] (some 2) 0 x0), .undef, .undef, .undef, .undef, .undef, .undef, .undef, .undef, .undef, .undef, .undef, .undef, .undef, .undef, .undef, .undef, .undef, .undef, .undef, .undef, .undef, .undef, .undef, .undef, .undef, .undef, .undef, .undef, .undef, .undef, .undef, .undef, .undef, .undef, .undef, .undef, .undef, .undef, .undef, .undef, .undef, .undef, .undef, .undef, .undef, .undef, .undef, .undef, .undef, .undef, .undef, .undef, .undef, .undef, .undef, .undef, .undef, .undef, .undef, .undef, .undef, .undef], [([1000], (.row false (some 2) x3))]⟩
def f37_s9 (x0 j : Nat) (y : CV) (x3 : List CV) : St := ⟨[(.osl [1000] (some 2) 0 x0), (.v (CV.int .i64 (Nat.cast (j) : Int))), (.sl false (some 2) [y]), .undef, .undef, .undef, .undef, (.v (CV.int .i64 1)), (.v (CV.int .i64 (Nat.cast (x0) : Int))), .undef, .undef, .undef, .undef, .undef, .undef, .undef, .undef, .undef, .undef, .undef, .undef, .undef, .undef, .undef, .undef, .undef, .undef, .undef, .undef, .undef, .undef, .undef, (.osl [1000] (some 2) 0 x0), (.v (CV.int .i64 (Nat.cast (j) : Int))), .undef, .undef, .undef, .undef, .undef, .undef, .undef, .undef, .undef, .undef, .undef, .undef, .undef, .undef, .undef, .undef, .undef, .undef, .undef, .undef, .undef, .undef, .undef, .undef, .undef, .undef, .undef, .undef, .undef, .undef, .undef, .undef, .undef, .undef, .undef, .undef, .undef, .undef, .undef, .undef, .undef, .undef, .undef, .undef, .undef, .undef, .undef, .undef, .undef, .undef, .undef, .undef, .undef, .undef, .undef, .undef, .undef, .undef, .undef, .undef, .undef], [([1000], (.row false (some 2) x3))]⟩
def f37_s10 (x0 j : Nat) (y : CV) (x3 : List CV) : St := ⟨[(.osl [1000] (some 2) 0 x0), (.v (CV.int .i64 (Nat.cast (j) : Int))), (.sl false (some 2) [y]), .undef, .undef, .undef, .undef, (.v (CV.int .i64 1)), (.v (CV.int .i64 (Nat.cast (x0) : Int))), .undef, .undef, .undef, .undef, .undef, .undef, .undef, .undef, .undef, .undef, .undef, .undef, .undef, .undef, .undef, .undef, .undef, .undef, .undef, .undef, .undef, .undef, .undef, (.osl [1000] (some 2) 0 x0), (.v (CV.int .i64 (Nat.cast (j) : Int))), (.osl [1000] (some 2) 0 (j - 0)), .undef, .undef, .undef, .undef, .undef, .undef, .undef, .undef, .undef, .undef, .undef, .undef, .undef, .undef, .undef, .undef, .undef, .undef, .undef, .undef, .undef, .undef, .undef, .undef, .undef, .undef, .undef, .undef, .undef, .undef, .undef, .undef, .undef, .undef, .undef, .undef, .undef, .undef, .undef, .undef, .undef, .undef, .undef, .undef, .undef, .undef, .undef, .undef, .undef, .undef, .undef, .undef, .undef, .undef, .undef, .undef, .undef, .undef, .undef, .undef], [([1000], (.row false (some 2) x3))]⟩
def f37_s11 (x0 j : Nat) (y : CV) (x3 : List CV) : St := ⟨[(.osl [1000] (some 2) 0 x0), (.v (CV.int .i64 (Nat.cast (j) : Int))), (.sl false (some 2) [y]), .undef, .undef, .undef, .undef, (.v (CV.int .i64 1)), (.v (CV.int .i64 (Nat.cast (x0) : Int))), .undef, .undef, .undef, .undef, .undef, .undef, .undef, .undef, .undef, .undef, .undef, .undef, .undef, .undef, .undef, .undef, .undef, .undef, .undef, .undef, .undef, .undef, .undef, (.osl [1000] (some 2) 0 x0), (.v (CV.int .i64 (Nat.cast (j) : Int))), (.osl [1000] (some 2) 0 (j - 0)), (.v (CV.int .i64 (Nat.cast (x0) : Int))), (.v (CV.int .i64 1)), (.v (CV.int .i64 (IntKind.wrap .i64 ((Nat.cast (x0) : Int) + 1)))), (.v (CV.int .i64 (Nat.cast (j) : Int))), (.v (CV.int .i64 (IntKind.wrap .i64 ((IntKind.wrap .i64 ((Nat.cast (x0) : Int) + 1)) - (Nat.cast (j) : Int))))), .undef, .undef, .undef, .undef, .undef, .undef, .undef, .undef, .undef, .undef, .undef, .undef, .undef, .undef, .undef, .undef, .undef, .undef, .undef, .undef, .undef, .undef, .undef, .undef, .undef, .undef, .undef, .undef, .undef, .undef, .undef, .undef, .undef, .undef, .undef, .undef, .undef, .undef, .undef, .undef, .undef, .undef, .undef, .undef, .undef, .undef, .undef, .undef, .undef, .undef, .undef, .undef, .undef, .undef, .undef], [([1000], (.row false (some 2) x3))]⟩
def f37_s13 (x0 j : Nat) (y : CV) (x3 : List CV) : St := ⟨[(.osl [1000] (some 2) 0 x0), (.v (CV.int .i64 (Nat.cast (j) : Int))), (.sl false (some 2) [y]), .undef, .undef, .undef, .undef, (.v (CV.int .i64 1)), (.v (CV.int .i64 (Nat.cast (x0) : Int))), (.osl [9] (some 2) 0 (x0 + 1)), .undef, .undef, .undef, .undef, .undef, .undef, .undef, .undef, .undef, .undef, .undef, .undef, .undef, .undef, .undef, .undef, .undef, .undef, .undef, .undef, .undef, .undef, (.osl [1000] (some 2) 0 x0), (.v (CV.int .i64 (Nat.cast (j) : Int))), (.osl [1000] (some 2) 0 (j - 0)), (.v (CV.int .i64 (Nat.cast (x0) : Int))), (.v (CV.int .i64 1)), (.v (CV.int .i64 (IntKind.wrap .i64 ((Nat.cast (x0) : Int) + 1)))), (.v (CV.int .i64 (Nat.cast (j) : Int))), (.v (CV.int .i64 (IntKind.wrap .i64 ((IntKind.wrap .i64 ((Nat.cast (x0) : Int) + 1)) - (Nat.cast (j) : Int))))), (.osl [9] (some 2) 0 (x0 + 1)), .undef, .undef, .undef, .undef, .undef, .undef, .undef, .undef, .undef, .undef, .undef, .undef, .undef, .undef, .undef, .undef, .undef, .undef, .undef, .undef, .undef, .undef, .undef, .undef, .undef, .undef, .undef, .undef, .undef, .undef, .undef, .undef, .undef, .undef, .undef, .undef, .undef, .undef, .undef, .undef, .undef, .undef, .undef, .undef, .undef, .undef, .undef, .undef, .undef, .undef, .undef, .undef, .undef, .undef], [([9], (.row false (some 2) (List.take j x3 ++ List.replicate (x0 + 1 - j) (CV.agg [(CV.int .i64 0), (CV.slc none [])])))), ([1000], (.row false (some 2) x3))]⟩
def f37_s14 (x0 j : Nat) (y : CV) (x3 : List CV) : St := ⟨[(.osl [1000] (some 2) 0 x0), (.v (CV.int .i64 (Nat.cast (j) : Int))), (.sl false (some 2) [y]), .undef, .undef, .undef, .undef, (.v (CV.int .i64 1)), (.v (CV.int .i64 (Nat.cast (x0) : Int))), .undef, .undef, .undef, .undef, .undef, .undef, .undef, .undef, .undef, .undef, .undef, .undef, .undef, .undef, .undef, .undef, .undef, .undef, .undef, .undef, .undef, .undef, .undef, .undef, .undef, .undef, .undef, .undef, .undef, .undef, .undef, .undef, .undef, .undef, .undef, .undef, .undef, .undef, .undef, .undef, .undef, .undef, .undef, .undef, .undef, .undef, .undef, .undef, .undef, .undef, .undef, .undef, .undef, .undef, .undef, .undef, .undef, .undef, .undef, .undef, .undef, .undef, .undef, .undef, .undef, .undef, .undef, .undef, .undef, .undef, .undef, .undef, .undef, .undef, .undef, .undef, .undef, .undef, .undef, .undef, .undef, .undef, .undef, .undef, .undef, .undef], [([1000], (.row false (some 2) x3))]⟩
def f37_s16 (x0 j : Nat) (y : CV) (x3 : List CV) : St := ⟨[(.osl [0] (some 2) 0 ((Int.toNat (IntKind.wrap .i64 ((Nat.cast (x0) : Int) + 1))) - 0)), (.v (CV.int .i64 (Nat.cast (j) : Int))), (.sl false (some 2) [y]), .undef, .undef, .undef, .undef, (.v (CV.int .i64 1)), (.v (CV.int .i64 (Nat.cast (x0) : Int))), .undef, .undef, .undef, .undef, .undef, .undef, .undef, .undef, .undef, .undef, .undef, .undef, .undef, .undef, .undef, .undef, .undef, .undef, .undef, .undef, .undef, .undef, .undef, .undef, .undef, .undef, .undef, .undef, .undef, .undef, .undef, .undef, .undef, .undef, .undef, .undef, .undef, .undef, .undef, .undef, .undef, .undef, .undef, .undef, .undef, .undef, .undef, (.osl [0] (some 2) 0 x0), (.v (CV.int .i64 (Nat.cast (x0) : Int))), (.v (CV.int .i64 1)), (.v (CV.int .i64 (IntKind.wrap .i64 ((Nat.cast (x0) : Int) + 1)))), (.osl [0] (some 2) 0 ((Int.toNat (IntKind.wrap .i64 ((Nat.cast (x0) : Int) + 1))) - 0)), .undef, .undef, .undef, .undef, .undef, .undef, .undef, .undef, .undef, .undef, .undef, .undef, .undef, .undef, .undef, .undef, .undef, .undef, .undef, .undef, .undef, .undef, .undef, .undef, .undef, .undef, .undef, .undef, .undef, .undef, .undef, .undef, .undef, .undef], [([0], (.row false (some 2) (List.take x0 x3 ++ [(CV.agg (List.replicate 2 CV.any))])))]⟩
def f37_s17 (x0 j : Nat) (y : CV) (x3 : List CV) : St := ⟨[(.osl [0] (some 2) 0 ((Int.toNat (IntKind.wrap .i64 ((Nat.cast (x0) : Int) + 1))) - 0)), (.v (CV.int .i64 (Nat.cast (j) : Int))), (.sl false (some 2) [y]), .undef, .undef, .undef, .undef, (.v (CV.int .i64 1)), (.v (CV.int .i64 (Nat.cast (x0) : Int))), .undef, .undef, .undef, .undef, .undef, .undef, .undef, .undef, .undef, .undef, .undef, .undef, .undef, .undef, .undef, .undef, .undef, .undef, .undef, .undef, .undef, .undef, .undef, .undef, .undef, .undef, .undef, .undef, .undef, .undef, .undef, .undef, .undef, .undef, .undef, .undef, .undef, .undef, .undef, .undef, .undef, .undef, .undef, .undef, .undef, .undef, .undef, .undef, .undef, .undef, .undef, .undef, .undef, .undef, .undef, .undef, .undef, .undef, .undef, .undef, .undef, .undef, .undef, .undef, .undef, .undef, .undef, .undef, .undef, .undef, .undef, .undef, .undef, .undef, .undef, .undef, .undef, .undef, .undef, .undef, .undef, .undef, .undef, .undef, .undef, .undef], [([0], (.row false (some 2) (List.take x0 x3 ++ [(CV.agg (List.replicate 2 CV.any))])))]⟩
def f37_s18 (x0 j : Nat) (y : CV) (x3 : List CV) : St := ⟨[(.osl [0] (some 2) 0 ((Int.toNat (IntKind.wrap .i64 ((Nat.cast (x0) : Int) + 1))) - 0)), (.v (CV.int .i64 (Nat.cast (j) : Int))), (.sl false (some 2) [y]), .undef, .undef, .undef, .undef, (.v (CV.int .i64 1)), (.v (CV.int .i64 (Nat.cast (x0) : Int))), .undef, .undef, .undef, .undef, .undef, .undef, .undef, .undef, .undef, .undef, .undef, .undef, .undef, .undef, .undef, .undef, .undef, .undef, .undef, .undef, .undef, .undef, .undef, .undef, .undef, .undef, .undef, .undef, .undef, .undef, .undef, .undef, .undef, .undef, .undef, .undef, .undef, .undef, .undef, .undef, .undef, .undef, .undef, .undef, .undef, .undef, .undef, .undef, .undef, .undef, .undef, .undef, (.sl false (some 2) [y]), (.osl [0] (some 2) 0 ((Int.toNat (IntKind.wrap .i64 ((Nat.cast (x0) : Int) + 1))) - 0)), (.v (CV.int .i64 (Nat.cast (j) : Int))), (.v (CV.int .i64 1)), (.v (CV.int .i64 (IntKind.wrap .i64 ((Nat.cast (j) : Int) + 1)))), (.osl [0] (some 2) (0 + (Int.toNat (IntKind.wrap .i64 ((Nat.cast (j) : Int) + 1)))) (((Int.toNat (IntKind.wrap .i64 ((Nat.cast (x0) : Int) + 1))) - 0) - (Int.toNat (IntKind.wrap .i64 ((Nat.cast (j) : Int) + 1))))), .undef, .undef, .undef, .undef, .undef, .undef, .undef, .undef, .undef, .undef, .undef, .undef, .undef, .undef, .undef, .undef, .undef, .undef, .undef, .undef, .undef, .undef, .undef, .undef, .undef, .undef, .undef, .undef], [([0], (.row false (some 2) (List.take x0 x3 ++ [(CV.agg (List.replicate 2 CV.any))])))]⟩
def f37_s20 (x0 j : Nat) (y : CV) (x3 : List CV) : St := ⟨[(.osl [0] (some 2) 0 ((Int.toNat (IntKind.wrap .i64 ((Nat.cast (x0) : Int) + 1))) - 0)), (.v (CV.int .i64 (Nat.cast (j) : Int))), (.sl false (some 2) [y]), .undef, .undef, .undef, .undef, (.v (CV.int .i64 1)), (.v (CV.int .i64 (Nat.cast (x0) : Int))), .undef, .undef, .undef, .undef, .undef, .undef, .undef, .undef, .undef, .undef, .undef, .undef, .undef, .undef, .undef, .undef, .undef, .undef, .undef, .undef, .undef, .undef, .undef, .undef, .undef, .undef, .undef, .undef, .undef, .undef, .undef, .undef, .undef, .undef, .undef, .undef, .undef, .undef, .undef, .undef, .undef, .undef, .undef, .undef, .undef, .undef, .undef, .undef, .undef, .undef, .undef, .undef, (.sl false (some 2) [y]), (.osl [0] (some 2) 0 ((Int.toNat (IntKind.wrap .i64 ((Nat.cast (x0) : Int) + 1))) - 0)), (.v (CV.int .i64 (Nat.cast (j) : Int))), (.v (CV.int .i64 1)), (.v (CV.int .i64 (IntKind.wrap .i64 ((Nat.cast (j) : Int) + 1)))), (.osl [0] (some 2) (0 + (Int.toNat (IntKind.wrap .i64 ((Nat.cast (j) : Int) + 1)))) (((Int.toNat (IntKind.wrap .i64 ((Nat.cast (x0) : Int) + 1))) - 0) - (Int.toNat (IntKind.wrap .i64 ((Nat.cast (j) : Int) + 1))))), (.v (CV.bool false)), (.v (CV.bool true)), .undef, .undef, .undef, .undef, .undef, .undef, .undef, .undef, .undef, .undef, .undef, .undef, .undef, .undef, .undef, .undef, .undef, .undef, .undef, .undef, .undef, .undef, .undef, .undef, .undef, .undef], [([0], (.row false (some 2) (List.take x0 x3 ++ [(CV.agg (List.replicate 2 CV.any))])))]⟩
set_option maxRecDepth 100000 in
theorem f37_h1 (x0 j : Nat) (y : CV) (x3 : List CV) (hj : j < x0) (h3 : x0 ≤ List.length x3) (hb : (x0 + 1) * 32 ≤ 140737488355328) : evSeq f37e_cx 1 [(cdL (Try.f37.body.getD .skip)), (cdL (cdR (Try.f37.body.getD .skip))), (cdL (cdR (cdR (Try.f37.body.getD .skip)))), (cdL (cdR (cdR (cdR (Try.f37.body.getD .skip))))), (cdL (cdR (cdR (cdR (cdR (Try.f37.body.getD .skip)))))), (cdL (cdR (cdR (cdR (cdR (cdR (Try.f37.body.getD .skip)))))))] ⟨padT Try.f37.ntmps [(.osl [1000] (some 2) 0 x0), (.v (CV.int .i64 (Nat.cast (j) : Int))), (.sl false (some 2) [y])], [([1000], (.row false (some 2) x3))]⟩ some = some (f37_s1 x0 j y x3) := by
  refine Eq.trans (b := grd (decide ((Nat.cast (j) : Int) ≤ (Nat.cast (x0) : Int))) <|
grd (decide ((Nat.cast (x0) : Int) ≤ (Nat.cast (x0) : Int))) <|
(bif ((Nat.cast (j) : Int) == (Nat.cast (x0) : Int)) then
grd (decide ((x0 + 1) * 32 ≤ 140737488355328)) <|
none
else
(some (f37_s1 x0 j y x3)))) (by kernel_rfl) ?_
  have hw : ∀ m : Nat, m ≤ x0 → IntKind.wrap .i64 ((m : Int) + 1) = ((m + 1 : Nat) : Int) := fun m hm => by rw [IntKind.wrap_i64]; omega
  have hw0 := hw x0 (Nat.le_refl _)
  have hwj := hw j (Nat.le_of_lt hj)
  repeat (first | refine (grd_pos (decide_eq_true (by omega))).trans ?_ | refine (bif_neg (by simp; omega)).trans ?_ | refine (grd_pos (decide_eq_true (by simp [hw0, hwj, List.length_append, List.length_take, List.length_drop, List.length_replicate]; omega))).trans ?_)
  rfl
set_option maxRecDepth 100000 in
theorem f37_hG (x0 j : Nat) (y : CV) (x3 : List CV) (hj : j < x0) (h3 : x0 ≤ List.length x3) (hb : (x0 + 1) * 32 ≤ 140737488355328) : evCode f37e_cx 1 (cdR (cdT (cdR (cdL (cdR (cdR (cdR (cdR (cdR (cdR (Try.f37.body.getD .skip))))))))))) (f37_s13 x0 j y x3) (fun _ => none) (fun _ _ => none) (evRet f37e_cx.T [⟨1000000, [], some [1000]⟩] Try.f37.results.toList) = some (⟨(.osl [2000] (some 2) 0 (x0 + 1)), [([2000], (.row false (some 2) (List.take (0 + (x0 + 1)) ((List.take (0 + (Int.toNat (IntKind.wrap .i64 ((Nat.cast (j) : Int) + 1)))) ((List.take (0 + j) (List.take j x3 ++ List.replicate (x0 + 1 - j) (CV.agg [(CV.int .i64 0), (CV.slc none [])]))) ++ (List.take (min 1 ((x0 + 1) - j)) [y]) ++ (List.drop ((0 + j) + (min 1 ((x0 + 1) - j))) (List.take j x3 ++ List.replicate (x0 + 1 - j) (CV.agg [(CV.int .i64 0), (CV.slc none [])]))))) ++ (List.take (min (List.length (List.take (x0 - j) (List.drop (0 + j) x3))) ((x0 + 1) - (Int.toNat (IntKind.wrap .i64 ((Nat.cast (j) : Int) + 1))))) (List.take (x0 - j) (List.drop (0 + j) x3))) ++ (List.drop ((0 + (Int.toNat (IntKind.wrap .i64 ((Nat.cast (j) : Int) + 1)))) + (min (List.length (List.take (x0 - j) (List.drop (0 + j) x3))) ((x0 + 1) - (Int.toNat (IntKind.wrap .i64 ((Nat.cast (j) : Int) + 1)))))) ((List.take (0 + j) (List.take j x3 ++ List.replicate (x0 + 1 - j) (CV.agg [(CV.int .i64 0), (CV.slc none [])]))) ++ (List.take (min 1 ((x0 + 1) - j)) [y]) ++ (List.drop ((0 + j) + (min 1 ((x0 + 1) - j))) (List.take j x3 ++ List.replicate (x0 + 1 - j) (CV.agg [(CV.int .i64 0), (CV.slc none [])])))))))))]⟩ : Out) := by
  refine Eq.trans (b := grd (decide ((Nat.cast (j) : Int) ≤ (Nat.cast ((x0 + 1)) : Int))) <|
grd (decide ((Nat.cast ((x0 + 1)) : Int) ≤ (Nat.cast ((x0 + 1)) : Int))) <|
grd (decide (((0 + j) + ((x0 + 1) - j)) ≤ (List.length (List.take j x3 ++ List.replicate (x0 + 1 - j) (CV.agg [(CV.int .i64 0), (CV.slc none [])]))))) <|
grd (decide (0 ≤ (IntKind.wrap .i64 ((Nat.cast (j) : Int) + 1)))) <|
grd (decide ((IntKind.wrap .i64 ((Nat.cast (j) : Int) + 1)) ≤ (Nat.cast ((x0 + 1)) : Int))) <|
grd (decide ((Nat.cast ((x0 + 1)) : Int) ≤ (Nat.cast ((x0 + 1)) : Int))) <|
grd (decide ((Nat.cast (j) : Int) ≤ (Nat.cast (x0) : Int))) <|
grd (decide ((Nat.cast (x0) : Int) ≤ (Nat.cast (x0) : Int))) <|
grd (decide (((0 + (Int.toNat (IntKind.wrap .i64 ((Nat.cast (j) : Int) + 1)))) + ((x0 + 1) - (Int.toNat (IntKind.wrap .i64 ((Nat.cast (j) : Int) + 1))))) ≤ (List.length ((List.take (0 + j) (List.take j x3 ++ List.replicate (x0 + 1 - j) (CV.agg [(CV.int .i64 0), (CV.slc none [])]))) ++ (List.take (min 1 ((x0 + 1) - j)) [y]) ++ (List.drop ((0 + j) + (min 1 ((x0 + 1) - j))) (List.take j x3 ++ List.replicate (x0 + 1 - j) (CV.agg [(CV.int .i64 0), (CV.slc none [])]))))))) <|
(some (⟨(.osl [2000] (some 2) 0 (x0 + 1)), [([2000], (.row false (some 2) (List.take (0 + (x0 + 1)) ((List.take (0 + (Int.toNat (IntKind.wrap .i64 ((Nat.cast (j) : Int) + 1)))) ((List.take (0 + j) (List.take j x3 ++ List.replicate (x0 + 1 - j) (CV.agg [(CV.int .i64 0), (CV.slc none [])]))) ++ (List.take (min 1 ((x0 + 1) - j)) [y]) ++ (List.drop ((0 + j) + (min 1 ((x0 + 1) - j))) (List.take j x3 ++ List.replicate (x0 + 1 - j) (CV.agg [(CV.int .i64 0), (CV.slc none [])]))))) ++ (List.take (min (List.length (List.take (x0 - j) (List.drop (0 + j) x3))) ((x0 + 1) - (Int.toNat (IntKind.wrap .i64 ((Nat.cast (j) : Int) + 1))))) (List.take (x0 - j) (List.drop (0 + j) x3))) ++ (List.drop ((0 + (Int.toNat (IntKind.wrap .i64 ((Nat.cast (j) : Int) + 1)))) + (min (List.length (List.take (x0 - j) (List.drop (0 + j) x3))) ((x0 + 1) - (Int.toNat (IntKind.wrap .i64 ((Nat.cast (j) : Int) + 1)))))) ((List.take (0 + j) (List.take j x3 ++ List.replicate (x0 + 1 - j) (CV.agg [(CV.int .i64 0), (CV.slc none [])]))) ++ (List.take (min 1 ((x0 + 1) - j)) [y]) ++ (List.drop ((0 + j) + (min 1 ((x0 + 1) - j))) (List.take j x3 ++ List.replicate (x0 + 1 - j) (CV.agg [(CV.int .i64 0), (CV.slc none [])])))))))))]⟩ : Out))) (by kernel_rfl) ?_
  have hw : ∀ m : Nat, m ≤ x0 → IntKind.wrap .i64 ((m : Int) + 1) = ((m + 1 : Nat) : Int) := fun m hm => by rw [IntKind.wrap_i64]; omega
  have hw0 := hw x0 (Nat.le_refl _)
  have hwj := hw j (Nat.le_of_lt hj)
  repeat (first | refine (grd_pos (decide_eq_true (by omega))).trans ?_ | refine (bif_neg (by simp; omega)).trans ?_ | refine (grd_pos (decide_eq_true (by simp [hw0, hwj, List.length_append, List.length_take, List.length_drop, List.length_replicate]; omega))).trans ?_)
  rfl
set_option maxRecDepth 100000 in
theorem f37_hH (x0 j : Nat) (y : CV) (x3 : List CV) (hj : j < x0) (h3 : x0 ≤ List.length x3) (hb : (x0 + 1) * 32 ≤ 140737488355328) : evCode f37e_cx 1 (cdT (cdR (cdL (cdR (cdR (cdR (cdR (cdR (cdR (cdR (cdR (Try.f37.body.getD .skip)))))))))))) (f37_s20 x0 j y x3) (fun _ => none) (fun _ _ => none) (evRet f37e_cx.T [⟨1000000, [], some [1000]⟩] Try.f37.results.toList) = some (⟨(.osl [2000] (some 2) 0 ((Int.toNat (IntKind.wrap .i64 ((Nat.cast (x0) : Int) + 1))) - 0)), [([2000], (.row false (some 2) (List.take (0 + ((Int.toNat (IntKind.wrap .i64 ((Nat.cast (x0) : Int) + 1))) - 0)) ((List.take (0 + j) ((List.take (0 + (Int.toNat (IntKind.wrap .i64 ((Nat.cast (j) : Int) + 1)))) (List.take x0 x3 ++ [(CV.agg (List.replicate 2 CV.any))])) ++ (List.take (min (List.length (List.take (((Int.toNat (IntKind.wrap .i64 ((Nat.cast (x0) : Int) + 1))) - 0) - j) (List.drop (0 + j) (List.take x0 x3 ++ [(CV.agg (List.replicate 2 CV.any))])))) (((Int.toNat (IntKind.wrap .i64 ((Nat.cast (x0) : Int) + 1))) - 0) - (Int.toNat (IntKind.wrap .i64 ((Nat.cast (j) : Int) + 1))))) (List.take (((Int.toNat (IntKind.wrap .i64 ((Nat.cast (x0) : Int) + 1))) - 0) - j) (List.drop (0 + j) (List.take x0 x3 ++ [(CV.agg (List.replicate 2 CV.any))])))) ++ (List.drop ((0 + (Int.toNat (IntKind.wrap .i64 ((Nat.cast (j) : Int) + 1)))) + (min (List.length (List.take (((Int.toNat (IntKind.wrap .i64 ((Nat.cast (x0) : Int) + 1))) - 0) - j) (List.drop (0 + j) (List.take x0 x3 ++ [(CV.agg (List.replicate 2 CV.any))])))) (((Int.toNat (IntKind.wrap .i64 ((Nat.cast (x0) : Int) + 1))) - 0) - (Int.toNat (IntKind.wrap .i64 ((Nat.cast (j) : Int) + 1)))))) (List.take x0 x3 ++ [(CV.agg (List.replicate 2 CV.any))])))) ++ (List.take (min 1 (((Int.toNat (IntKind.wrap .i64 ((Nat.cast (x0) : Int) + 1))) - 0) - j)) [y]) ++ (List.drop ((0 + j) + (min 1 (((Int.toNat (IntKind.wrap .i64 ((Nat.cast (x0) : Int) + 1))) - 0) - j))) ((List.take (0 + (Int.toNat (IntKind.wrap .i64 ((Nat.cast (j) : Int) + 1)))) (List.take x0 x3 ++ [(CV.agg (List.replicate 2 CV.any))])) ++ (List.take (min (List.length (List.take (((Int.toNat (IntKind.wrap .i64 ((Nat.cast (x0) : Int) + 1))) - 0) - j) (List.drop (0 + j) (List.take x0 x3 ++ [(CV.agg (List.replicate 2 CV.any))])))) (((Int.toNat (IntKind.wrap .i64 ((Nat.cast (x0) : Int) + 1))) - 0) - (Int.toNat (IntKind.wrap .i64 ((Nat.cast (j) : Int) + 1))))) (List.take (((Int.toNat (IntKind.wrap .i64 ((Nat.cast (x0) : Int) + 1))) - 0) - j) (List.drop (0 + j) (List.take x0 x3 ++ [(CV.agg (List.replicate 2 CV.any))])))) ++ (List.drop ((0 + (Int.toNat (IntKind.wrap .i64 ((Nat.cast (j) : Int) + 1)))) + (min (List.length (List.take (((Int.toNat (IntKind.wrap .i64 ((Nat.cast (x0) : Int) + 1))) - 0) - j) (List.drop (0 + j) (List.take x0 x3 ++ [(CV.agg (List.replicate 2 CV.any))])))) (((Int.toNat (IntKind.wrap .i64 ((Nat.cast (x0) : Int) + 1))) - 0) - (Int.toNat (IntKind.wrap .i64 ((Nat.cast (j) : Int) + 1)))))) (List.take x0 x3 ++ [(CV.agg (List.replicate 2 CV.any))]))))))))]⟩ : Out) := by
  refine Eq.trans (b := grd (decide (0 ≤ (IntKind.wrap .i64 ((Nat.cast (j) : Int) + 1)))) <|
grd (decide ((IntKind.wrap .i64 ((Nat.cast (j) : Int) + 1)) ≤ (Nat.cast (((Int.toNat (IntKind.wrap .i64 ((Nat.cast (x0) : Int) + 1))) - 0)) : Int))) <|
grd (decide ((Nat.cast (((Int.toNat (IntKind.wrap .i64 ((Nat.cast (x0) : Int) + 1))) - 0)) : Int) ≤ (Nat.cast (((Int.toNat (IntKind.wrap .i64 ((Nat.cast (x0) : Int) + 1))) - 0)) : Int))) <|
grd (decide ((Nat.cast (j) : Int) ≤ (Nat.cast (((Int.toNat (IntKind.wrap .i64 ((Nat.cast (x0) : Int) + 1))) - 0)) : Int))) <|
grd (decide ((Nat.cast (((Int.toNat (IntKind.wrap .i64 ((Nat.cast (x0) : Int) + 1))) - 0)) : Int) ≤ (Nat.cast (((Int.toNat (IntKind.wrap .i64 ((Nat.cast (x0) : Int) + 1))) - 0)) : Int))) <|
grd (decide (((0 + (Int.toNat (IntKind.wrap .i64 ((Nat.cast (j) : Int) + 1)))) + (((Int.toNat (IntKind.wrap .i64 ((Nat.cast (x0) : Int) + 1))) - 0) - (Int.toNat (IntKind.wrap .i64 ((Nat.cast (j) : Int) + 1))))) ≤ (List.length (List.take x0 x3 ++ [(CV.agg (List.replicate 2 CV.any))])))) <|
grd (decide ((Nat.cast (j) : Int) ≤ (Nat.cast (((Int.toNat (IntKind.wrap .i64 ((Nat.cast (x0) : Int) + 1))) - 0)) : Int))) <|
grd (decide ((Nat.cast (((Int.toNat (IntKind.wrap .i64 ((Nat.cast (x0) : Int) + 1))) - 0)) : Int) ≤ (Nat.cast (((Int.toNat (IntKind.wrap .i64 ((Nat.cast (x0) : Int) + 1))) - 0)) : Int))) <|
grd (decide (((0 + j) + (((Int.toNat (IntKind.wrap .i64 ((Nat.cast (x0) : Int) + 1))) - 0) - j)) ≤ (List.length ((List.take (0 + (Int.toNat (IntKind.wrap .i64 ((Nat.cast (j) : Int) + 1)))) (List.take x0 x3 ++ [(CV.agg (List.replicate 2 CV.any))])) ++ (List.take (min (List.length (List.take (((Int.toNat (IntKind.wrap .i64 ((Nat.cast (x0) : Int) + 1))) - 0) - j) (List.drop (0 + j) (List.take x0 x3 ++ [(CV.agg (List.replicate 2 CV.any))])))) (((Int.toNat (IntKind.wrap .i64 ((Nat.cast (x0) : Int) + 1))) - 0) - (Int.toNat (IntKind.wrap .i64 ((Nat.cast (j) : Int) + 1))))) (List.take (((Int.toNat (IntKind.wrap .i64 ((Nat.cast (x0) : Int) + 1))) - 0) - j) (List.drop (0 + j) (List.take x0 x3 ++ [(CV.agg (List.replicate 2 CV.any))])))) ++ (List.drop ((0 + (Int.toNat (IntKind.wrap .i64 ((Nat.cast (j) : Int) + 1)))) + (min (List.length (List.take (((Int.toNat (IntKind.wrap .i64 ((Nat.cast (x0) : Int) + 1))) - 0) - j) (List.drop (0 + j) (List.take x0 x3 ++ [(CV.agg (List.replicate 2 CV.any))])))) (((Int.toNat (IntKind.wrap .i64 ((Nat.cast (x0) : Int) + 1))) - 0) - (Int.toNat (IntKind.wrap .i64 ((Nat.cast (j) : Int) + 1)))))) (List.take x0 x3 ++ [(CV.agg (List.replicate 2 CV.any))])))))) <|
(some (⟨(.osl [2000] (some 2) 0 ((Int.toNat (IntKind.wrap .i64 ((Nat.cast (x0) : Int) + 1))) - 0)), [([2000], (.row false (some 2) (List.take (0 + ((Int.toNat (IntKind.wrap .i64 ((Nat.cast (x0) : Int) + 1))) - 0)) ((List.take (0 + j) ((List.take (0 + (Int.toNat (IntKind.wrap .i64 ((Nat.cast (j) : Int) + 1)))) (List.take x0 x3 ++ [(CV.agg (List.replicate 2 CV.any))])) ++ (List.take (min (List.length (List.take (((Int.toNat (IntKind.wrap .i64 ((Nat.cast (x0) : Int) + 1))) - 0) - j) (List.drop (0 + j) (List.take x0 x3 ++ [(CV.agg (List.replicate 2 CV.any))])))) (((Int.toNat (IntKind.wrap .i64 ((Nat.cast (x0) : Int) + 1))) - 0) - (Int.toNat (IntKind.wrap .i64 ((Nat.cast (j) : Int) + 1))))) (List.take (((Int.toNat (IntKind.wrap .i64 ((Nat.cast (x0) : Int) + 1))) - 0) - j) (List.drop (0 + j) (List.take x0 x3 ++ [(CV.agg (List.replicate 2 CV.any))])))) ++ (List.drop ((0 + (Int.toNat (IntKind.wrap .i64 ((Nat.cast (j) : Int) + 1)))) + (min (List.length (List.take (((Int.toNat (IntKind.wrap .i64 ((Nat.cast (x0) : Int) + 1))) - 0) - j) (List.drop (0 + j) (List.take x0 x3 ++ [(CV.agg (List.replicate 2 CV.any))])))) (((Int.toNat (IntKind.wrap .i64 ((Nat.cast (x0) : Int) + 1))) - 0) - (Int.toNat (IntKind.wrap .i64 ((Nat.cast (j) : Int) + 1)))))) (List.take x0 x3 ++ [(CV.agg (List.replicate 2 CV.any))])))) ++ (List.take (min 1 (((Int.toNat (IntKind.wrap .i64 ((Nat.cast (x0) : Int) + 1))) - 0) - j)) [y]) ++ (List.drop ((0 + j) + (min 1 (((Int.toNat (IntKind.wrap .i64 ((Nat.cast (x0) : Int) + 1))) - 0) - j))) ((List.take (0 + (Int.toNat (IntKind.wrap .i64 ((Nat.cast (j) : Int) + 1)))) (List.take x0 x3 ++ [(CV.agg (List.replicate 2 CV.any))])) ++ (List.take (min (List.length (List.take (((Int.toNat (IntKind.wrap .i64 ((Nat.cast (x0) : Int) + 1))) - 0) - j) (List.drop (0 + j) (List.take x0 x3 ++ [(CV.agg (List.replicate 2 CV.any))])))) (((Int.toNat (IntKind.wrap .i64 ((Nat.cast (x0) : Int) + 1))) - 0) - (Int.toNat (IntKind.wrap .i64 ((Nat.cast (j) : Int) + 1))))) (List.take (((Int.toNat (IntKind.wrap .i64 ((Nat.cast (x0) : Int) + 1))) - 0) - j) (List.drop (0 + j) (List.take x0 x3 ++ [(CV.agg (List.replicate 2 CV.any))])))) ++ (List.drop ((0 + (Int.toNat (IntKind.wrap .i64 ((Nat.cast (j) : Int) + 1)))) + (min (List.length (List.take (((Int.toNat (IntKind.wrap .i64 ((Nat.cast (x0) : Int) + 1))) - 0) - j) (List.drop (0 + j) (List.take x0 x3 ++ [(CV.agg (List.replicate 2 CV.any))])))) (((Int.toNat (IntKind.wrap .i64 ((Nat.cast (x0) : Int) + 1))) - 0) - (Int.toNat (IntKind.wrap .i64 ((Nat.cast (j) : Int) + 1)))))) (List.take x0 x3 ++ [(CV.agg (List.replicate 2 CV.any))]))))))))]⟩ : Out))) (by kernel_rfl) ?_
  have hw : ∀ m : Nat, m ≤ x0 → IntKind.wrap .i64 ((m : Int) + 1) = ((m + 1 : Nat) : Int) := fun m hm => by rw [IntKind.wrap_i64]; omega
  have hw0 := hw x0 (Nat.le_refl _)
  have hwj := hw j (Nat.le_of_lt hj)
  repeat (first | refine (grd_pos (decide_eq_true (by omega))).trans ?_ | refine (bif_neg (by simp; omega)).trans ?_ | refine (grd_pos (decide_eq_true (by simp [hw0, hwj, List.length_append, List.length_take, List.length_drop, List.length_replicate]; omega))).trans ?_)
  rfl
set_option maxRecDepth 100000 in
theorem f37_h16 (x0 j : Nat) (y : CV) (x3 : List CV) (hj : j < x0) (h3 : x0 ≤ List.length x3) (hb : (x0 + 1) * 32 ≤ 140737488355328) : evGs f37e_cx (cdO (cdL (cdR (cdR (cdR (cdR (cdR (cdR (cdR (Try.f37.body.getD .skip)))))))))) (cdO (cdL (cdR (cdR (cdR (cdR (cdR (cdR (cdR (Try.f37.body.getD .skip)))))))))).toList ⟨setn (f37_s14 x0 j y x3).tmps 0 (.osl [900] (some 2) 0 x0), [([900], .row false (some 2) (x3.take x0 ++ [.agg (List.replicate 2 .any)]))]⟩ some = some (f37_s16 x0 j y x3) := by
  refine Eq.trans (b := grd (decide (0 ≤ (IntKind.wrap .i64 ((Nat.cast (x0) : Int) + 1)))) <|
grd (decide ((IntKind.wrap .i64 ((Nat.cast (x0) : Int) + 1)) ≤ ((Nat.cast ((List.length (List.take x0 x3 ++ [(CV.agg (List.replicate 2 CV.any))]))) : Int) - 0))) <|
(some (f37_s16 x0 j y x3))) (by kernel_rfl) ?_
  have hw : ∀ m : Nat, m ≤ x0 → IntKind.wrap .i64 ((m : Int) + 1) = ((m + 1 : Nat) : Int) := fun m hm => by rw [IntKind.wrap_i64]; omega
  have hw0 := hw x0 (Nat.le_refl _)
  have hwj := hw j (Nat.le_of_lt hj)
  repeat (first | refine (grd_pos (decide_eq_true (by omega))).trans ?_ | refine (bif_neg (by simp; omega)).trans ?_ | refine (grd_pos (decide_eq_true (by simp [hw0, hwj, List.length_append, List.length_take, List.length_drop, List.length_replicate]; omega))).trans ?_)
  rfl
set_option maxRecDepth 100000 in
theorem f37_h18 (x0 j : Nat) (y : CV) (x3 : List CV) (hj : j < x0) (h3 : x0 ≤ List.length x3) (hb : (x0 + 1) * 32 ≤ 140737488355328) : evPs f37e_cx (opsTo (cdO (cdL (cdL (cdR (cdR (cdR (cdR (cdR (cdR (cdR (cdR (Try.f37.body.getD .skip)))))))))))) 0 6) (f37_s17 x0 j y x3) some = some (f37_s18 x0 j y x3) := by
  refine Eq.trans (b := grd (decide (0 ≤ (IntKind.wrap .i64 ((Nat.cast (j) : Int) + 1)))) <|
grd (decide ((IntKind.wrap .i64 ((Nat.cast (j) : Int) + 1)) ≤ (Nat.cast (((Int.toNat (IntKind.wrap .i64 ((Nat.cast (x0) : Int) + 1))) - 0)) : Int))) <|
grd (decide ((Nat.cast (((Int.toNat (IntKind.wrap .i64 ((Nat.cast (x0) : Int) + 1))) - 0)) : Int) ≤ (Nat.cast (((Int.toNat (IntKind.wrap .i64 ((Nat.cast (x0) : Int) + 1))) - 0)) : Int))) <|
(some (f37_s18 x0 j y x3))) (by kernel_rfl) ?_
  have hw : ∀ m : Nat, m ≤ x0 → IntKind.wrap .i64 ((m : Int) + 1) = ((m + 1 : Nat) : Int) := fun m hm => by rw [IntKind.wrap_i64]; omega
  have hw0 := hw x0 (Nat.le_refl _)
  have hwj := hw j (Nat.le_of_lt hj)
  repeat (first | refine (grd_pos (decide_eq_true (by omega))).trans ?_ | refine (bif_neg (by simp; omega)).trans ?_ | refine (grd_pos (decide_eq_true (by simp [hw0, hwj, List.length_append, List.length_take, List.length_drop, List.length_replicate]; omega))).trans ?_)
  rfl
set_option maxRecDepth 100000 in
theorem f37_h10 (x0 j : Nat) (y : CV) (x3 : List CV) (hj : j < x0) (h3 : x0 ≤ List.length x3) (hb : (x0 + 1) * 32 ≤ 140737488355328) : evOp f37e_cx (f37_s9 x0 j y x3) (opAt (cdO (cdL (cdT (cdR (cdL (cdR (cdR (cdR (cdR (cdR (cdR (Try.f37.body.getD .skip)))))))))))) 2) some = some (f37_s10 x0 j y x3) := by
  refine Eq.trans (b := grd (decide ((Nat.cast (j) : Int) ≤ ((Nat.cast ((List.length x3)) : Int) - 0))) <|
(some (f37_s10 x0 j y x3))) (by kernel_rfl) ?_
  have hw : ∀ m : Nat, m ≤ x0 → IntKind.wrap .i64 ((m : Int) + 1) = ((m + 1 : Nat) : Int) := fun m hm => by rw [IntKind.wrap_i64]; omega
  have hw0 := hw x0 (Nat.le_refl _)
  have hwj := hw j (Nat.le_of_lt hj)
  repeat (first | refine (grd_pos (decide_eq_true (by omega))).trans ?_ | refine (bif_neg (by simp; omega)).trans ?_ | refine (grd_pos (decide_eq_true (by simp [hw0, hwj, List.length_append, List.length_take, List.length_drop, List.length_replicate]; omega))).trans ?_)
  rfl
abbrev f37_R : Type 1 := (X : Type) → (Nat × (List CV) → Option X) → Nat → Int → (List CV) → (List CV) → Option X
def f37_out (u : Nat × (List CV)) : Out := ⟨(.osl [2000] (some 2) 0 u.1), [([2000], (.row false (some 2) u.2))]⟩
def f37_cOf (R : f37_R) : FnC := fun X xs ns K => match xs, ns with
  | [(.osl [1000] (some 2) 0 x0), (.v (CV.int .i64 x1)), (.sl false (some 2) x2)], [([1000], (.row false (some 2) x3))] => R X (fun u => K (f37_out u)) x0 x1 x2 x3
  | _, _ => none
theorem f37_rowG (x0 j : Nat) (y : CV) (x3 : List CV) (hj : j < x0) (h3 : x0 ≤ List.length x3) (hb : (x0 + 1) * 32 ≤ 140737488355328) : (List.take (0 + (x0 + 1)) ((List.take (0 + (Int.toNat (IntKind.wrap .i64 ((Nat.cast (j) : Int) + 1)))) ((List.take (0 + j) (List.take j x3 ++ List.replicate (x0 + 1 - j) (CV.agg [(CV.int .i64 0), (CV.slc none [])]))) ++ (List.take (min 1 ((x0 + 1) - j)) [y]) ++ (List.drop ((0 + j) + (min 1 ((x0 + 1) - j))) (List.take j x3 ++ List.replicate (x0 + 1 - j) (CV.agg [(CV.int .i64 0), (CV.slc none [])]))))) ++ (List.take (min (List.length (List.take (x0 - j) (List.drop (0 + j) x3))) ((x0 + 1) - (Int.toNat (IntKind.wrap .i64 ((Nat.cast (j) : Int) + 1))))) (List.take (x0 - j) (List.drop (0 + j) x3))) ++ (List.drop ((0 + (Int.toNat (IntKind.wrap .i64 ((Nat.cast (j) : Int) + 1)))) + (min (List.length (List.take (x0 - j) (List.drop (0 + j) x3))) ((x0 + 1) - (Int.toNat (IntKind.wrap .i64 ((Nat.cast (j) : Int) + 1)))))) ((List.take (0 + j) (List.take j x3 ++ List.replicate (x0 + 1 - j) (CV.agg [(CV.int .i64 0), (CV.slc none [])]))) ++ (List.take (min 1 ((x0 + 1) - j)) [y]) ++ (List.drop ((0 + j) + (min 1 ((x0 + 1) - j))) (List.take j x3 ++ List.replicate (x0 + 1 - j) (CV.agg [(CV.int .i64 0), (CV.slc none [])]))))))) = List.take j x3 ++ y :: List.drop j (List.take x0 x3) := by
  have hwj := wrap1 (n := j) (by omega)
  have hw0 := wrap1 (n := x0) (by omega)
  simp only [hwj, hw0, Int.toNat_natCast]
  exact ins_rowG x0 j y (CV.agg [(CV.int .i64 0), (CV.slc none [])]) x3 hj h3
theorem f37_oG (x0 j : Nat) (y : CV) (x3 : List CV) (hj : j < x0) (h3 : x0 ≤ List.length x3) (hb : (x0 + 1) * 32 ≤ 140737488355328) : (⟨(.osl [2000] (some 2) 0 (x0 + 1)), [([2000], (.row false (some 2) (List.take (0 + (x0 + 1)) ((List.take (0 + (Int.toNat (IntKind.wrap .i64 ((Nat.cast (j) : Int) + 1)))) ((List.take (0 + j) (List.take j x3 ++ List.replicate (x0 + 1 - j) (CV.agg [(CV.int .i64 0), (CV.slc none [])]))) ++ (List.take (min 1 ((x0 + 1) - j)) [y]) ++ (List.drop ((0 + j) + (min 1 ((x0 + 1) - j))) (List.take j x3 ++ List.replicate (x0 + 1 - j) (CV.agg [(CV.int .i64 0), (CV.slc none [])]))))) ++ (List.take (min (List.length (List.take (x0 - j) (List.drop (0 + j) x3))) ((x0 + 1) - (Int.toNat (IntKind.wrap .i64 ((Nat.cast (j) : Int) + 1))))) (List.take (x0 - j) (List.drop (0 + j) x3))) ++ (List.drop ((0 + (Int.toNat (IntKind.wrap .i64 ((Nat.cast (j) : Int) + 1)))) + (min (List.length (List.take (x0 - j) (List.drop (0 + j) x3))) ((x0 + 1) - (Int.toNat (IntKind.wrap .i64 ((Nat.cast (j) : Int) + 1)))))) ((List.take (0 + j) (List.take j x3 ++ List.replicate (x0 + 1 - j) (CV.agg [(CV.int .i64 0), (CV.slc none [])]))) ++ (List.take (min 1 ((x0 + 1) - j)) [y]) ++ (List.drop ((0 + j) + (min 1 ((x0 + 1) - j))) (List.take j x3 ++ List.replicate (x0 + 1 - j) (CV.agg [(CV.int .i64 0), (CV.slc none [])])))))))))]⟩ : Out) = f37_out (x0 + 1, List.take j x3 ++ y :: List.drop j (List.take x0 x3)) := by
  rw [f37_rowG x0 j y x3 hj h3 hb]
  have hwj := wrap1 (n := j) (by omega)
  have hw0 := wrap1 (n := x0) (by omega)
  try simp only [hwj, hw0, Int.toNat_natCast]
  rfl
theorem f37_rowH (x0 j : Nat) (y : CV) (x3 : List CV) (hj : j < x0) (h3 : x0 ≤ List.length x3) (hb : (x0 + 1) * 32 ≤ 140737488355328) : (List.take (0 + ((Int.toNat (IntKind.wrap .i64 ((Nat.cast (x0) : Int) + 1))) - 0)) ((List.take (0 + j) ((List.take (0 + (Int.toNat (IntKind.wrap .i64 ((Nat.cast (j) : Int) + 1)))) (List.take x0 x3 ++ [(CV.agg (List.replicate 2 CV.any))])) ++ (List.take (min (List.length (List.take (((Int.toNat (IntKind.wrap .i64 ((Nat.cast (x0) : Int) + 1))) - 0) - j) (List.drop (0 + j) (List.take x0 x3 ++ [(CV.agg (List.replicate 2 CV.any))])))) (((Int.toNat (IntKind.wrap .i64 ((Nat.cast (x0) : Int) + 1))) - 0) - (Int.toNat (IntKind.wrap .i64 ((Nat.cast (j) : Int) + 1))))) (List.take (((Int.toNat (IntKind.wrap .i64 ((Nat.cast (x0) : Int) + 1))) - 0) - j) (List.drop (0 + j) (List.take x0 x3 ++ [(CV.agg (List.replicate 2 CV.any))])))) ++ (List.drop ((0 + (Int.toNat (IntKind.wrap .i64 ((Nat.cast (j) : Int) + 1)))) + (min (List.length (List.take (((Int.toNat (IntKind.wrap .i64 ((Nat.cast (x0) : Int) + 1))) - 0) - j) (List.drop (0 + j) (List.take x0 x3 ++ [(CV.agg (List.replicate 2 CV.any))])))) (((Int.toNat (IntKind.wrap .i64 ((Nat.cast (x0) : Int) + 1))) - 0) - (Int.toNat (IntKind.wrap .i64 ((Nat.cast (j) : Int) + 1)))))) (List.take x0 x3 ++ [(CV.agg (List.replicate 2 CV.any))])))) ++ (List.take (min 1 (((Int.toNat (IntKind.wrap .i64 ((Nat.cast (x0) : Int) + 1))) - 0) - j)) [y]) ++ (List.drop ((0 + j) + (min 1 (((Int.toNat (IntKind.wrap .i64 ((Nat.cast (x0) : Int) + 1))) - 0) - j))) ((List.take (0 + (Int.toNat (IntKind.wrap .i64 ((Nat.cast (j) : Int) + 1)))) (List.take x0 x3 ++ [(CV.agg (List.replicate 2 CV.any))])) ++ (List.take (min (List.length (List.take (((Int.toNat (IntKind.wrap .i64 ((Nat.cast (x0) : Int) + 1))) - 0) - j) (List.drop (0 + j) (List.take x0 x3 ++ [(CV.agg (List.replicate 2 CV.any))])))) (((Int.toNat (IntKind.wrap .i64 ((Nat.cast (x0) : Int) + 1))) - 0) - (Int.toNat (IntKind.wrap .i64 ((Nat.cast (j) : Int) + 1))))) (List.take (((Int.toNat (IntKind.wrap .i64 ((Nat.cast (x0) : Int) + 1))) - 0) - j) (List.drop (0 + j) (List.take x0 x3 ++ [(CV.agg (List.replicate 2 CV.any))])))) ++ (List.drop ((0 + (Int.toNat (IntKind.wrap .i64 ((Nat.cast (j) : Int) + 1)))) + (min (List.length (List.take (((Int.toNat (IntKind.wrap .i64 ((Nat.cast (x0) : Int) + 1))) - 0) - j) (List.drop (0 + j) (List.take x0 x3 ++ [(CV.agg (List.replicate 2 CV.any))])))) (((Int.toNat (IntKind.wrap .i64 ((Nat.cast (x0) : Int) + 1))) - 0) - (Int.toNat (IntKind.wrap .i64 ((Nat.cast (j) : Int) + 1)))))) (List.take x0 x3 ++ [(CV.agg (List.replicate 2 CV.any))])))))) = List.take j x3 ++ y :: List.drop j (List.take x0 x3) := by
  have hwj := wrap1 (n := j) (by omega)
  have hw0 := wrap1 (n := x0) (by omega)
  simp only [hwj, hw0, Int.toNat_natCast]
  exact ins_rowH x0 j y (CV.agg (List.replicate 2 CV.any)) x3 hj h3
theorem f37_oH (x0 j : Nat) (y : CV) (x3 : List CV) (hj : j < x0) (h3 : x0 ≤ List.length x3) (hb : (x0 + 1) * 32 ≤ 140737488355328) : (⟨(.osl [2000] (some 2) 0 ((Int.toNat (IntKind.wrap .i64 ((Nat.cast (x0) : Int) + 1))) - 0)), [([2000], (.row false (some 2) (List.take (0 + ((Int.toNat (IntKind.wrap .i64 ((Nat.cast (x0) : Int) + 1))) - 0)) ((List.take (0 + j) ((List.take (0 + (Int.toNat (IntKind.wrap .i64 ((Nat.cast (j) : Int) + 1)))) (List.take x0 x3 ++ [(CV.agg (List.replicate 2 CV.any))])) ++ (List.take (min (List.length (List.take (((Int.toNat (IntKind.wrap .i64 ((Nat.cast (x0) : Int) + 1))) - 0) - j) (List.drop (0 + j) (List.take x0 x3 ++ [(CV.agg (List.replicate 2 CV.any))])))) (((Int.toNat (IntKind.wrap .i64 ((Nat.cast (x0) : Int) + 1))) - 0) - (Int.toNat (IntKind.wrap .i64 ((Nat.cast (j) : Int) + 1))))) (List.take (((Int.toNat (IntKind.wrap .i64 ((Nat.cast (x0) : Int) + 1))) - 0) - j) (List.drop (0 + j) (List.take x0 x3 ++ [(CV.agg (List.replicate 2 CV.any))])))) ++ (List.drop ((0 + (Int.toNat (IntKind.wrap .i64 ((Nat.cast (j) : Int) + 1)))) + (min (List.length (List.take (((Int.toNat (IntKind.wrap .i64 ((Nat.cast (x0) : Int) + 1))) - 0) - j) (List.drop (0 + j) (List.take x0 x3 ++ [(CV.agg (List.replicate 2 CV.any))])))) (((Int.toNat (IntKind.wrap .i64 ((Nat.cast (x0) : Int) + 1))) - 0) - (Int.toNat (IntKind.wrap .i64 ((Nat.cast (j) : Int) + 1)))))) (List.take x0 x3 ++ [(CV.agg (List.replicate 2 CV.any))])))) ++ (List.take (min 1 (((Int.toNat (IntKind.wrap .i64 ((Nat.cast (x0) : Int) + 1))) - 0) - j)) [y]) ++ (List.drop ((0 + j) + (min 1 (((Int.toNat (IntKind.wrap .i64 ((Nat.cast (x0) : Int) + 1))) - 0) - j))) ((List.take (0 + (Int.toNat (IntKind.wrap .i64 ((Nat.cast (j) : Int) + 1)))) (List.take x0 x3 ++ [(CV.agg (List.replicate 2 CV.any))])) ++ (List.take (min (List.length (List.take (((Int.toNat (IntKind.wrap .i64 ((Nat.cast (x0) : Int) + 1))) - 0) - j) (List.drop (0 + j) (List.take x0 x3 ++ [(CV.agg (List.replicate 2 CV.any))])))) (((Int.toNat (IntKind.wrap .i64 ((Nat.cast (x0) : Int) + 1))) - 0) - (Int.toNat (IntKind.wrap .i64 ((Nat.cast (j) : Int) + 1))))) (List.take (((Int.toNat (IntKind.wrap .i64 ((Nat.cast (x0) : Int) + 1))) - 0) - j) (List.drop (0 + j) (List.take x0 x3 ++ [(CV.agg (List.replicate 2 CV.any))])))) ++ (List.drop ((0 + (Int.toNat (IntKind.wrap .i64 ((Nat.cast (j) : Int) + 1)))) + (min (List.length (List.take (((Int.toNat (IntKind.wrap .i64 ((Nat.cast (x0) : Int) + 1))) - 0) - j) (List.drop (0 + j) (List.take x0 x3 ++ [(CV.agg (List.replicate 2 CV.any))])))) (((Int.toNat (IntKind.wrap .i64 ((Nat.cast (x0) : Int) + 1))) - 0) - (Int.toNat (IntKind.wrap .i64 ((Nat.cast (j) : Int) + 1)))))) (List.take x0 x3 ++ [(CV.agg (List.replicate 2 CV.any))]))))))))]⟩ : Out) = f37_out (x0 + 1, List.take j x3 ++ y :: List.drop j (List.take x0 x3)) := by
  rw [f37_rowH x0 j y x3 hj h3 hb]
  have hwj := wrap1 (n := j) (by omega)
  have hw0 := wrap1 (n := x0) (by omega)
  try simp only [hwj, hw0, Int.toNat_natCast]
  rfl
set_option maxRecDepth 100000 in
theorem f37_fn (x0 j : Nat) (y : CV) (x3 : List CV) (hj : j < x0) (h3 : x0 ≤ List.length x3) (hb : (x0 + 1) * 32 ≤ 140737488355328) : FnOk Try.prog 37 [(.osl [1000] (some 2) 0 x0), (.v (CV.int .i64 (Nat.cast (j) : Int))), (.sl false (some 2) [y])] [([1000], (.row false (some 2) x3))] (f37_out (x0 + 1, List.take j x3 ++ y :: List.drop j (List.take x0 x3))) :=
  insert_fn (cx := f37e_cx) (tabOf_tabOk S.hr) (tabOf_noOther S.hr) (CsOk.fns (f37e_Cok) (cmpsAre_ok cmps_ok)) S.hm Try.func37
    (cs := [(cdL (Try.f37.body.getD .skip)), (cdL (cdR (Try.f37.body.getD .skip))), (cdL (cdR (cdR (Try.f37.body.getD .skip)))), (cdL (cdR (cdR (cdR (Try.f37.body.getD .skip))))), (cdL (cdR (cdR (cdR (cdR (Try.f37.body.getD .skip)))))), (cdL (cdR (cdR (cdR (cdR (cdR (Try.f37.body.getD .skip)))))))])
    (id8 := (cdI (cdL (cdL (cdR (cdR (cdR (cdR (cdR (cdR (Try.f37.body.getD .skip)))))))))))
    (id9 := (cdI (cdL (cdT (cdR (cdL (cdR (cdR (cdR (cdR (cdR (cdR (Try.f37.body.getD .skip)))))))))))))
    (id13 := (cdI (cdL (cdR (cdR (cdR (cdR (cdR (cdR (cdR (Try.f37.body.getD .skip)))))))))))
    (id14 := (cdI (cdL (cdL (cdR (cdR (cdR (cdR (cdR (cdR (cdR (cdR (Try.f37.body.getD .skip)))))))))))))
    (ops8 := (cdO (cdL (cdL (cdR (cdR (cdR (cdR (cdR (cdR (Try.f37.body.getD .skip)))))))))))
    (ops9 := (cdO (cdL (cdT (cdR (cdL (cdR (cdR (cdR (cdR (cdR (cdR (Try.f37.body.getD .skip)))))))))))))
    (ops13 := (cdO (cdL (cdR (cdR (cdR (cdR (cdR (cdR (cdR (Try.f37.body.getD .skip)))))))))))
    (ops14 := (cdO (cdL (cdL (cdR (cdR (cdR (cdR (cdR (cdR (cdR (cdR (Try.f37.body.getD .skip)))))))))))))
    (G := (cdR (cdT (cdR (cdL (cdR (cdR (cdR (cdR (cdR (cdR (Try.f37.body.getD .skip))))))))))))
    (H := (cdT (cdR (cdL (cdR (cdR (cdR (cdR (cdR (cdR (cdR (cdR (Try.f37.body.getD .skip)))))))))))))
    (T := (cdR (cdR (cdR (cdR (cdR (cdR (cdR (cdR (cdR (Try.f37.body.getD .skip)))))))))))
    (d31 := 31)
    (c14 := 68)
    (hb := by kernel_rfl)
    (ws := [⟨1000000, [], some [1000]⟩])
    (fuel := 1)
    (k := 2)
    (n := x0)
    (iN := j)
    (i := (j : Int))
    (N := IntKind.wrap .i64 ((x0 : Int) + 1))
    (kn := (IntKind.wrap .i64 ((IntKind.wrap .i64 ((Nat.cast (x0) : Int) + 1)) - (Nat.cast (j) : Int))))
    (xs := x3)
    (ys := [y])
    (z := (CV.agg [(CV.int .i64 0), (CV.slc none [])]))
    (o := f37_out (x0 + 1, List.take j x3 ++ y :: List.drop j (List.take x0 x3)))
    (hn := hj)
    (hys := Nat.zero_lt_one)
    (hiN := rfl)
    (hN := wrap1 (by omega))
    (hkn := by rw [wrap1 (n := x0) (by omega), IntKind.wrap_i64]; omega)
    (t := 22)
    (tn := 3)
    (e := 51)
    (ht := Try.underlying22)
    (htn := ⟨_, Try.underlying3⟩)
    (he := by kernel_rfl)
    (hsh := by kernel_rfl)
    (hz := by kernel_rfl)
    (hfit := by kernel_rfl)
    (hbig := hb)
    (s1 := (f37_s1 x0 j y x3))
    (s2 := (f37_s2 x0 j y x3))
    (s3 := (f37_s3 x0 j y x3))
    (s4 := (f37_s4 x0 j y x3))
    (s7 := (f37_s7 x0 j y x3))
    (s8 := (f37_s8 x0 j y x3))
    (s9 := (f37_s9 x0 j y x3))
    (s10 := (f37_s10 x0 j y x3))
    (s11 := (f37_s11 x0 j y x3))
    (s13 := (f37_s13 x0 j y x3))
    (s14 := (f37_s14 x0 j y x3))
    (s16 := (f37_s16 x0 j y x3))
    (s17 := (f37_s17 x0 j y x3))
    (s18 := (f37_s18 x0 j y x3))
    (s20 := (f37_s20 x0 j y x3))
    (s6 := fun c => f37_s6 x0 j y x3 c)
    (l8 := opsTo (cdO (cdL (cdL (cdR (cdR (cdR (cdR (cdR (cdR (Try.f37.body.getD .skip)))))))))) 0 3)
    (l9 := opsTo (cdO (cdL (cdT (cdR (cdL (cdR (cdR (cdR (cdR (cdR (cdR (Try.f37.body.getD .skip)))))))))))) 1 2)
    (l9b := opsTo (cdO (cdL (cdT (cdR (cdL (cdR (cdR (cdR (cdR (cdR (cdR (Try.f37.body.getD .skip)))))))))))) 3 8)
    (l9c := opsTo (cdO (cdL (cdT (cdR (cdL (cdR (cdR (cdR (cdR (cdR (cdR (Try.f37.body.getD .skip)))))))))))) 9 10)
    (l14 := opsTo (cdO (cdL (cdL (cdR (cdR (cdR (cdR (cdR (cdR (cdR (cdR (Try.f37.body.getD .skip)))))))))))) 0 6)
    (l14b := opsTo (cdO (cdL (cdL (cdR (cdR (cdR (cdR (cdR (cdR (cdR (cdR (Try.f37.body.getD .skip)))))))))))) 7 8)
    (m8 := opAt (cdO (cdL (cdL (cdR (cdR (cdR (cdR (cdR (cdR (Try.f37.body.getD .skip)))))))))) 3)
    (c8 := opAt (cdO (cdL (cdL (cdR (cdR (cdR (cdR (cdR (cdR (Try.f37.body.getD .skip)))))))))) 4)
    (g8 := opAt (cdO (cdL (cdL (cdR (cdR (cdR (cdR (cdR (cdR (Try.f37.body.getD .skip)))))))))) 5)
    (m9 := opAt (cdO (cdL (cdT (cdR (cdL (cdR (cdR (cdR (cdR (cdR (cdR (Try.f37.body.getD .skip)))))))))))) 0)
    (sl9 := opAt (cdO (cdL (cdT (cdR (cdL (cdR (cdR (cdR (cdR (cdR (cdR (Try.f37.body.getD .skip)))))))))))) 2)
    (ap9 := opAt (cdO (cdL (cdT (cdR (cdL (cdR (cdR (cdR (cdR (cdR (cdR (Try.f37.body.getD .skip)))))))))))) 8)
    (ov := opAt (cdO (cdL (cdL (cdR (cdR (cdR (cdR (cdR (cdR (cdR (cdR (Try.f37.body.getD .skip)))))))))))) 6)
    (dm := 29)
    (dc := 30)
    (dm9 := 32)
    (di9 := 33)
    (ds9 := 34)
    (dk9 := 39)
    (da9 := 40)
    (dv := 61)
    (dd := 66)
    (dq := 67)
    (gov := 47)
    (tR := 4)
    (off := (0 + (Int.toNat (IntKind.wrap .i64 ((Nat.cast (j) : Int) + 1)))))
    (len := (((Int.toNat (IntKind.wrap .i64 ((Nat.cast (x0) : Int) + 1))) - 0) - (Int.toNat (IntKind.wrap .i64 ((Nat.cast (j) : Int) + 1)))))
    (ki := .i64)
    (kk := .i64)
    (h1 := f37_h1 x0 j y x3 hj h3 hb)
    (h2 := by kernel_rfl)
    (h2t := by kernel_rfl)
    (h2r := by kernel_rfl)
    (p8 := by kernel_rfl)
    (h3 := by kernel_rfl)
    (h4 := by kernel_rfl)
    (m8p := by kernel_rfl)
    (f8 := all_dst (by kernel_rfl))
    (m8o := rfl)
    (m8d := rfl)
    (m8n := by decide)
    (hdm := by show _ < 95; decide)
    (c8o := rfl)
    (c8d := rfl)
    (c8n := by decide)
    (c8g := rfl)
    (h5 := fun c => by kernel_rfl)
    (g8n := by decide)
    (hcond := fun c => rfl)
    (h7 := fun c => by kernel_rfl)
    (p9 := by kernel_rfl)
    (h8 := by kernel_rfl)
    (m9o := rfl)
    (m9d := rfl)
    (m9p := by kernel_rfl)
    (hdm9 := by show _ < 95; decide)
    (f9 := all_dst (by kernel_rfl))
    (h9 := by kernel_rfl)
    (h10 := f37_h10 x0 j y x3 hj h3 hb)
    (sl9p := by kernel_rfl)
    (sl9o := rfl)
    (sl9d := rfl)
    (hi9 := rfl)
    (hds9 := by show _ < 95; decide)
    (h11 := by kernel_rfl)
    (f9b := all_dst (by kernel_rfl))
    (ap9o := rfl)
    (ap9d := rfl)
    (ap9g := rfl)
    (hda := by decide)
    (hk9 := rfl)
    (hs9 := by kernel_rfl)
    (hr9 := rfl)
    (hn9 := rfl)
    (h13 := by kernel_rfl)
    (hG := (f37_hG x0 j y x3 hj h3 hb).trans (congrArg some (f37_oG x0 j y x3 hj h3 hb)))
    (h14 := fun c => by kernel_rfl)
    (h14n := rfl)
    (h14t := rfl)
    (h14l := by show 0 < 95; decide)
    (h14p := plain_all (by kernel_rfl))
    (h16 := f37_h16 x0 j y x3 hj h3 hb)
    (h17 := by kernel_rfl)
    (p14 := by kernel_rfl)
    (h18 := f37_h18 x0 j y x3 hj h3 hb)
    (nm18 := [0])
    (xs14 := (List.take x0 x3 ++ [(CV.agg (List.replicate 2 CV.any))]))
    (ovo := rfl)
    (ovd := rfl)
    (ovg := rfl)
    (hv18 := rfl)
    (hd18 := rfl)
    (hr18 := rfl)
    (hoff := by have hwj := wrap1 (n := j) (by omega); rw [hwj, Int.toNat_natCast]; omega)
    (hx14 := by rw [List.length_append, List.length_take]; show min x0 (List.length x3) + 1 = x0 + 1; omega)
    (hlen := by have hwj := wrap1 (n := j) (by omega); have hw0 := wrap1 (n := x0) (by omega); rw [hwj, hw0, Int.toNat_natCast, Int.toNat_natCast]; omega)
    (hgo := Try.func47)
    (hgn := by kernel_rfl)
    (hgb := rfl)
    (hgx := by kernel_rfl)
    (hge := by kernel_rfl)
    (h20 := by kernel_rfl)
    (h21 := rfl)
    (hH := (f37_hH x0 j y x3 hj h3 hb).trans (congrArg some (f37_oH x0 j y x3 hj h3 hb)))
    (hB := ⟨rfl, rfl⟩)
/-- "slices.Insert[[]outpost/api.Opt,outpost/api.Opt]" -/
def f37 {X : Type} (k : Nat) (K : Nat × List CV → Option X) (x0 : Nat) (x1 : Int) (x2 : List CV) (x3 : List CV) : Option X := bif (x1 == (x0 : Int)) then f37e k K x0 x1 x2 x3 else match x2 with
  | [y] => grd (decide (0 ≤ x1)) (grd (decide (x1 < (x0 : Int))) (grd (decide (x0 ≤ List.length x3)) (grd (decide ((x0 + 1) * 32 ≤ 140737488355328)) (K (x0 + 1, List.take (Int.toNat x1) x3 ++ y :: List.drop (Int.toNat x1) (List.take x0 x3))))))
  | _ => none
theorem f37_ok (k : Nat) : AnsOk Try.prog 37 (f37_cOf (fun X => @f37 X k)) := by
  intro X xs ns K x h
  unfold f37_cOf at h ⊢
  split at h
  · next x0 x1 x2 x3 =>
    cases hb : (x1 == (x0 : Int)) with
    | true =>
      have hk : ∀ {Y : Type} (K' : Out → Option Y), f37 k (fun u => K' (f37_out u)) x0 x1 x2 x3 = f37e k (fun u => K' (f37_out u)) x0 x1 x2 x3 := fun K' => by unfold f37; rw [hb]; rfl
      obtain ⟨h1, o, h2, h3, h4⟩ := f37e_ok k X [(.osl [1000] (some 2) 0 x0), (.v (CV.int .i64 x1)), (.sl false (some 2) x2)] [([1000], (.row false (some 2) x3))] K x ((hk K).symm.trans h)
      exact ⟨h1, o, h2, h3, fun Y K' => (hk K').trans (h4 Y K')⟩
    | false =>
      match x2 with
      | [y] =>
        have hk : ∀ {Y : Type} (K' : Out → Option Y), f37 k (fun u => K' (f37_out u)) x0 x1 [y] x3 = grd (decide (0 ≤ x1)) (grd (decide (x1 < (x0 : Int))) (grd (decide (x0 ≤ List.length x3)) (grd (decide ((x0 + 1) * 32 ≤ 140737488355328)) (K' (f37_out (x0 + 1, List.take (Int.toNat x1) x3 ++ y :: List.drop (Int.toNat x1) (List.take x0 x3))))))) := fun K' => by unfold f37; rw [hb]; rfl
        have h' := (hk K).symm.trans h
        obtain ⟨g1, h'⟩ := grd_some h'
        obtain ⟨g2, h'⟩ := grd_some h'
        obtain ⟨g3, h'⟩ := grd_some h'
        obtain ⟨g4, h'⟩ := grd_some h'
        have e1 := of_decide_eq_true g1
        have e2 := of_decide_eq_true g2
        refine ⟨trivial, _, ?_, h', fun Y K' => (hk K').trans (by rw [g1, g2, g3, g4]; rfl)⟩
        obtain ⟨j, rfl⟩ : ∃ j : Nat, x1 = j := ⟨x1.toNat, by omega⟩
        exact (f37_fn x0 j y x3 (by omega) (of_decide_eq_true g3) (of_decide_eq_true g4)).toX (ent_of Try.func37 (by kernel_rfl) rfl)
      | [] =>
        have hk : f37 k (fun u => K (f37_out u)) x0 x1 [] x3 = none := by unfold f37; rw [hb]; rfl
        exact absurd (hk.symm.trans h) (by simp)
      | y :: y' :: l =>
        have hk : f37 k (fun u => K (f37_out u)) x0 x1 (y :: y' :: l) x3 = none := by unfold f37; rw [hb]; rfl
        exact absurd (hk.symm.trans h) (by simp)
  · cases h
abbrev f20_R : Type 1 := (X : Type) → (Nat × (List CV) → Option X) → (List CV) → Int → (List CV) → Option X
def f20_out (u : Nat × (List CV)) : Out := ⟨(.osl [2000] (some 2) 0 u.1), [([2000], (.row false (some 2) u.2))]⟩
def f20_cOf (R : f20_R) : FnC := fun X xs ns K => match xs, ns with
  | [(.sl false (some 2) x0), (.v (CV.int .i64 x1)), (.sl false none x2)], [] => R X (fun u => K (f20_out u)) x0 x1 x2
  | _, _ => none
def f20_plan : Nat → Option (List Nat × List Wk)
  | 0 => some ([0, 1, 2], [])
  | 1 => some ([0, 2, 4], [])
  | 2 => some ([0, 2, 4, 7], [])
  | 3 => some ([0, 2, 4], [])
  | 4 => some ([0, 2, 4, 7], [])
  | 5 => some ([0, 2, 4, 7, 8], [])
  | 6 => some ([2, 4, 7, 8, 18, 19, 20], [⟨8, [], some [8]⟩])
  | 7 => some ([2, 4, 7, 8, 18, 19, 20], [])
  | 8 => some ([2, 4, 7, 8, 10, 18, 19, 20], [])
  | 9 => some ([2, 4, 7, 8, 18, 19, 20], [])
  | 10 => some ([2, 4, 7, 8], [])
  | _ => none
def f20_C (R_f34 : f34_R) (R_f36 : f36_R) (R_f38 : f38_R) (R_f37 : f37_R) : Fns := (orC 34 (f34_cOf R_f34) (orC 36 (f36_cOf R_f36) (orC 37 (f37_cOf R_f37) (orC 38 (f38_cOf R_f38) noC))))
theorem f20_Cok (R_f34 : f34_R) (R_f36 : f36_R) (R_f38 : f38_R) (R_f37 : f37_R) (hR_f34 : AnsOk Try.prog 34 (f34_cOf R_f34)) (hR_f36 : AnsOk Try.prog 36 (f36_cOf R_f36)) (hR_f38 : AnsOk Try.prog 38 (f38_cOf R_f38)) (hR_f37 : AnsOk Try.prog 37 (f37_cOf R_f37)) : CsOk Try.prog (f20_C R_f34 R_f36 R_f38 R_f37) := (orC_ok hR_f34 (orC_ok hR_f36 (orC_ok hR_f37 (orC_ok hR_f38 noC_ok))))
def f20_cx (R_f34 : f34_R) (R_f36 : f36_R) (R_f38 : f38_R) (R_f37 : f37_R) (hR_f34 : AnsOk Try.prog 34 (f34_cOf R_f34)) (hR_f36 : AnsOk Try.prog 36 (f36_cOf R_f36)) (hR_f38 : AnsOk Try.prog 38 (f38_cOf R_f38)) (hR_f37 : AnsOk Try.prog 37 (f37_cOf R_f37)) : Cx := mkCx (tabOf rows) (f20_C R_f34 R_f36 R_f38 R_f37) md (cmpIn cmps) f20_plan (f20_Cok R_f34 R_f36 R_f38 R_f37 hR_f34 hR_f36 hR_f38 hR_f37)
def f20_S1 (v : (List CV) × Int × Nat × (List CV) × Int × Int × Int × (List CV)) : St := ⟨[.undef, .undef, (.sl false none v.1), .undef, (.ptr [4] 0 0 0), .undef, .undef, (.v (CV.int .i64 v.2.1)), (.osl [8] (some 2) 0 v.2.2.1), .undef, .undef, .undef, .undef, .undef, .undef, .undef, .undef, .undef, (.sl false (some 2) v.2.2.2.1), (.v (CV.int .i64 v.2.2.2.2.1)), (.v (CV.int .i64 v.2.2.2.2.2.1)), .undef, .undef, .undef, .undef, .undef, .undef, .undef, .undef, .undef, .undef, .undef, .undef, .undef, .undef, .undef, .undef, .undef], [([4], (.obj [(.v (CV.int .i64 v.2.2.2.2.2.2.1))])), ([8], (.row false (some 2) v.2.2.2.2.2.2.2))]⟩
def f20_J1 {X : Type} (R_f34 : f34_R) (R_f36 : f36_R) (R_f38 : f38_R) (R_f37 : f37_R) (k : Nat) (K : Nat × (List CV) → Option X) (loop1 : (List CV) × Int × Nat × (List CV) × Int × Int × Int × (List CV) → Option X) (x0 : List CV) (x1 : Int) (v2 : (List CV) × Int) : Option X :=
loop1 (v2.1, v2.2, 0, x0, (Nat.cast ((List.length x0)) : Int), 0, x1, [])
def f20_T1 {X : Type} (R_f34 : f34_R) (R_f36 : f36_R) (R_f38 : f38_R) (R_f37 : f37_R) (k : Nat) (K : Nat × (List CV) → Option X)   (rec1 : (List CV) × Int × Nat × (List CV) × Int × Int × Int × (List CV) → Option X) (v7_2 : (List CV) × Int × Nat × (List CV) × Int × Int × Int × (List CV)) : Option X :=
(bif (decide (v7_2.2.2.2.2.2.1 < v7_2.2.2.2.2.1)) then
grd (decide (0 ≤ v7_2.2.2.2.2.2.1)) <|
Option.bind (v7_2.2.2.2.1)[(Int.toNat v7_2.2.2.2.2.2.1)]? fun e10 =>
grd (CV.isA 2 e10) <|
grd (CV.isI .i64 (CV.cellD 0 e10)) <|
grd (CV.isL none (CV.cellD 1 e10)) <|
R_f36 _ (fun u11 =>
grd (decide ((v7_2.2.2.1 + (List.length (List.take 1 (List.drop 0 [(CV.agg [(CV.int .i64 u11.1), (CV.slc none (List.take u11.2.1 (List.drop 0 u11.2.2)))])])))) * 32 ≤ 140737488355328)) <|
rec1 (v7_2.1, v7_2.2.1, (v7_2.2.2.1 + (List.length (List.take 1 (List.drop 0 [(CV.agg [(CV.int .i64 u11.1), (CV.slc none (List.take u11.2.1 (List.drop 0 u11.2.2)))])])))), v7_2.2.2.2.1, v7_2.2.2.2.2.1, (IntKind.wrap .i64 (v7_2.2.2.2.2.2.1 + 1)), v7_2.2.2.2.2.2.2.1, ((List.take v7_2.2.2.1 v7_2.2.2.2.2.2.2.2) ++ (List.take 1 (List.drop 0 [(CV.agg [(CV.int .i64 u11.1), (CV.slc none (List.take u11.2.1 (List.drop 0 u11.2.2)))])]))))) ((CV.agg [(CV.int .i64 (CV.toI (CV.cellD 0 e10))), (CV.slc none (CV.toL (CV.cellD 1 e10)))]))
else
R_f38 _ (fun u12 =>
R_f37 _ (fun u13 =>
K (u13.1, (List.take (0 + u13.1) u13.2))) (v7_2.2.2.1) (v7_2.2.1) ((List.take 1 (List.drop 0 [(CV.agg [(CV.int .i64 v7_2.2.2.2.2.2.2.1), (CV.slc none (List.take (List.length u12) (List.drop 0 u12)))])]))) (v7_2.2.2.2.2.2.2.2)) (v7_2.1))
def f20_L1 {X : Type} (R_f34 : f34_R) (R_f36 : f36_R) (R_f38 : f38_R) (R_f37 : f37_R) (k : Nat) (K : Nat × (List CV) → Option X)  (rec1 : (List CV) × Int × Nat × (List CV) × Int × Int × Int × (List CV) → Option X) (v : (List CV) × Int × Nat × (List CV) × Int × Int × Int × (List CV)) : Option X := f20_T1 R_f34 R_f36 R_f38 R_f37 k K   rec1 v
set_option maxRecDepth 100000 in
theorem f20_L1_ev {X : Type} (R_f34 : f34_R) (R_f36 : f36_R) (R_f38 : f38_R) (R_f37 : f37_R) (hR_f34 : AnsOk Try.prog 34 (f34_cOf R_f34)) (hR_f36 : AnsOk Try.prog 36 (f36_cOf R_f36)) (hR_f38 : AnsOk Try.prog 38 (f38_cOf R_f38)) (hR_f37 : AnsOk Try.prog 37 (f37_cOf R_f37)) (k : Nat) (K : Out → Option X)  (r1 : St → Option X) (v : (List CV) × Int × Nat × (List CV) × Int × Int × Int × (List CV)) : loopB (f20_cx R_f34 R_f36 R_f38 R_f37 hR_f34 hR_f36 hR_f38 hR_f37) k [.r, .r, .r, .r, .l, .r, .b] (Try.f20.body.getD .skip) (retK (f20_cx R_f34 R_f36 R_f38 R_f37 hR_f34 hR_f36 hR_f38 hR_f37) [] Try.f20.results.toList K) [] r1 (f20_S1 v) = f20_T1 R_f34 R_f36 R_f38 R_f37 k (fun u => K (f20_out u))   (fun v => r1 (f20_S1 v)) v := by kernel_rfl
theorem f20_L1_it {X : Type} (R_f34 : f34_R) (R_f36 : f36_R) (R_f38 : f38_R) (R_f37 : f37_R) (hR_f34 : AnsOk Try.prog 34 (f34_cOf R_f34)) (hR_f36 : AnsOk Try.prog 36 (f36_cOf R_f36)) (hR_f38 : AnsOk Try.prog 38 (f38_cOf R_f38)) (hR_f37 : AnsOk Try.prog 37 (f37_cOf R_f37)) (k : Nat) (K : Out → Option X)  : (fun v => iter (loopB (f20_cx R_f34 R_f36 R_f38 R_f37 hR_f34 hR_f36 hR_f38 hR_f37) k [.r, .r, .r, .r, .l, .r, .b] (Try.f20.body.getD .skip) (retK (f20_cx R_f34 R_f36 R_f38 R_f37 hR_f34 hR_f36 hR_f38 hR_f37) [] Try.f20.results.toList K) []) k (f20_S1 v)) = iterV (f20_L1 R_f34 R_f36 R_f38 R_f37 k (fun u => K (f20_out u)) ) k :=
  iter_map (fun r1 v => (f20_L1_ev R_f34 R_f36 R_f38 R_f37 hR_f34 hR_f36 hR_f38 hR_f37 k K  r1 v).trans rfl) k
def f20_T {X : Type} (R_f34 : f34_R) (R_f36 : f36_R) (R_f38 : f38_R) (R_f37 : f37_R) (k : Nat) (K : Nat × (List CV) → Option X) (loop1 : (List CV) × Int × Nat × (List CV) × Int × Int × Int × (List CV) → Option X) (x0 : List CV) (x1 : Int) (x2 : List CV) : Option X :=
R_f34 _ (fun u1 =>
(bif (decide (u1 < 0)) then
f20_J1 R_f34 R_f36 R_f38 R_f37 k K loop1 x0 x1 (x2, (Nat.cast ((List.length x0)) : Int))
else
f20_J1 R_f34 R_f36 R_f38 R_f37 k K loop1 x0 x1 (x2, u1))) (x0) (x1)
/-- "outpost/opt.Add" -/
def f20_A (R_f34 : f34_R) (R_f36 : f36_R) (R_f38 : f38_R) (R_f37 : f37_R) (k : Nat) : f20_R := fun X K x0 x1 x2 => f20_T R_f34 R_f36 R_f38 R_f37 k K (iterV (f20_L1 R_f34 R_f36 R_f38 R_f37 k K) k) x0 x1 x2
set_option maxRecDepth 100000 in
theorem f20_ev' {X : Type} (R_f34 : f34_R) (R_f36 : f36_R) (R_f38 : f38_R) (R_f37 : f37_R) (hR_f34 : AnsOk Try.prog 34 (f34_cOf R_f34)) (hR_f36 : AnsOk Try.prog 36 (f36_cOf R_f36)) (hR_f38 : AnsOk Try.prog 38 (f38_cOf R_f38)) (hR_f37 : AnsOk Try.prog 37 (f37_cOf R_f37)) (k : Nat) (K : Out → Option X) (x0 : List CV) (x1 : Int) (x2 : List CV) : evFn (f20_cx R_f34 R_f36 R_f38 R_f37 hR_f34 hR_f36 hR_f38 hR_f37) [] k Try.f20.ntmps Try.f20.results.toList (Try.f20.body.getD .skip) [(.sl false (some 2) x0), (.v (CV.int .i64 x1)), (.sl false none x2)] [] K = f20_T R_f34 R_f36 R_f38 R_f37 k (fun u => K (f20_out u)) (fun v => iter (loopB (f20_cx R_f34 R_f36 R_f38 R_f37 hR_f34 hR_f36 hR_f38 hR_f37) k [.r, .r, .r, .r, .l, .r, .b] (Try.f20.body.getD .skip) (retK (f20_cx R_f34 R_f36 R_f38 R_f37 hR_f34 hR_f36 hR_f38 hR_f37) [] Try.f20.results.toList K) []) k (f20_S1 v)) x0 x1 x2 := by kernel_rfl
theorem f20_ev {X : Type} (R_f34 : f34_R) (R_f36 : f36_R) (R_f38 : f38_R) (R_f37 : f37_R) (hR_f34 : AnsOk Try.prog 34 (f34_cOf R_f34)) (hR_f36 : AnsOk Try.prog 36 (f36_cOf R_f36)) (hR_f38 : AnsOk Try.prog 38 (f38_cOf R_f38)) (hR_f37 : AnsOk Try.prog 37 (f37_cOf R_f37)) (k : Nat) (K : Out → Option X) (x0 : List CV) (x1 : Int) (x2 : List CV) : evFn (f20_cx R_f34 R_f36 R_f38 R_f37 hR_f34 hR_f36 hR_f38 hR_f37) [] k Try.f20.ntmps Try.f20.results.toList (Try.f20.body.getD .skip) [(.sl false (some 2) x0), (.v (CV.int .i64 x1)), (.sl false none x2)] [] K = f20_A R_f34 R_f36 R_f38 R_f37 k X (fun u => K (f20_out u)) x0 x1 x2 := (f20_ev' R_f34 R_f36 R_f38 R_f37 hR_f34 hR_f36 hR_f38 hR_f37 k K x0 x1 x2).trans (by rw [f20_L1_it R_f34 R_f36 R_f38 R_f37 hR_f34 hR_f36 hR_f38 hR_f37 k K]; rfl)
theorem f20_okA (R_f34 : f34_R) (R_f36 : f36_R) (R_f38 : f38_R) (R_f37 : f37_R) (hR_f34 : AnsOk Try.prog 34 (f34_cOf R_f34)) (hR_f36 : AnsOk Try.prog 36 (f36_cOf R_f36)) (hR_f38 : AnsOk Try.prog 38 (f38_cOf R_f38)) (hR_f37 : AnsOk Try.prog 37 (f37_cOf R_f37)) (k : Nat) : AnsOk Try.prog 20 (f20_cOf (f20_A R_f34 R_f36 R_f38 R_f37 k)) := by
  intro X xs ns K x h
  unfold f20_cOf at h ⊢
  split at h
  · exact ans_main S (f20_Cok R_f34 R_f36 R_f38 R_f37 hR_f34 hR_f36 hR_f38 hR_f37) Try.func20 (ent_of Try.func20 (by kernel_rfl) rfl) rfl (fun X K => f20_ev R_f34 R_f36 R_f38 R_f37 hR_f34 hR_f36 hR_f38 hR_f37 k K _ _ _) h
  · cases h
/-- "outpost/opt.Add" -/
def f20 {X : Type} (k : Nat) (K : Nat × (List CV) → Option X) (x0 : List CV) (x1 : Int) (x2 : List CV) : Option X := f20_A (fun X => @f34 X k) (fun X => @f36 X k) (fun X => @f38 X k) (fun X => @f37 X k) k X K x0 x1 x2
theorem f20_ok (k : Nat) : AnsOk Try.prog 20 (f20_cOf (fun X => @f20 X k)) := f20_okA (fun X => @f34 X k) (fun X => @f36 X k) (fun X => @f38 X k) (fun X => @f37 X k) (f34_ok k) (f36_ok k) (f38_ok k) (f37_ok k) k
abbrev f40_R : Type 1 := (X : Type) → (Bool → Option X) → CV → Option X
def f40_out (u : Bool) : Out := ⟨(.v (CV.bool u)), []⟩
def f40_cOf (R : f40_R) : FnC := fun X xs ns K => match xs, ns with
  | [(.v x0)], [] => R X (fun u => K (f40_out u)) x0
  | _, _ => none
def f40_plan : Nat → Option (List Nat × List Wk)
  | 0 => some ([0], [])
  | 1 => some ([1], [])
  | _ => none
def f40_C : Fns := noC
theorem f40_Cok : CsOk Try.prog (f40_C) := noC_ok
def f40_cx : Cx := mkCx (tabOf rows) (f40_C) md (cmpIn cmps) f40_plan (f40_Cok)
def f40_T {X : Type} (k : Nat) (K : Bool → Option X)  (x0 : CV) : Option X :=
grd (CV.isA 2 x0) <|
grd (CV.isI .i64 (CV.cellD 0 x0)) <|
grd (CV.isL none (CV.cellD 1 x0)) <|
(bif (decide ((CV.toI (CV.cellD 0 x0)) < 0)) then
K (true)
else
K ((decide ((CV.toI (CV.cellD 0 x0)) > 65535))))
/-- "outpost/opt.fault$1" -/
def f40_A (k : Nat) : f40_R := fun X K x0 => f40_T k K  x0
set_option maxRecDepth 100000 in
theorem f40_ev' {X : Type} (k : Nat) (K : Out → Option X) (x0 : CV) : evFn (f40_cx) [] k Try.f40.ntmps Try.f40.results.toList (Try.f40.body.getD .skip) [(.v x0)] [] K = f40_T k (fun u => K (f40_out u)) x0 := by kernel_rfl
theorem f40_ev {X : Type} (k : Nat) (K : Out → Option X) (x0 : CV) : evFn (f40_cx) [] k Try.f40.ntmps Try.f40.results.toList (Try.f40.body.getD .skip) [(.v x0)] [] K = f40_A k X (fun u => K (f40_out u)) x0 := (f40_ev' k K x0).trans rfl
theorem f40_okA (k : Nat) : AnsOk Try.prog 40 (f40_cOf (f40_A k)) := by
  intro X xs ns K x h
  unfold f40_cOf at h ⊢
  split at h
  · exact ans_main S (f40_Cok) Try.func40 (ent_of Try.func40 (by kernel_rfl) rfl) rfl (fun X K => f40_ev k K _) h
  · cases h
/-- "outpost/opt.fault$1" -/
def f40 {X : Type} (k : Nat) (K : Bool → Option X) (x0 : CV) : Option X := f40_A k X K x0
theorem f40_ok (k : Nat) : AnsOk Try.prog 40 (f40_cOf (fun X => @f40 X k)) := f40_okA k
abbrev f34b_R : Type 1 := (X : Type) → (Int → Option X) → (List CV) → Option X
def f34b_out (u : Int) : Out := ⟨(.v (CV.int .i64 u)), []⟩
def f34b_cOf (R : f34b_R) : FnC := fun X xs ns K => match xs, ns with
  | [(.sl false (some 2) x0), (.fn 40 [])], [] => R X (fun u => K (f34b_out u)) x0
  | _, _ => none
def f34b_is (xs : List AVal) (ns : Nodes) : Bool := match xs, ns with
  | [(.sl false (some 2) x0), (.fn 40 [])], [] => true
  | _, _ => false
def f34b_plan : Nat → Option (List Nat × List Wk)
  | 0 => some ([0, 1], [])
  | 1 => some ([0, 1], [])
  | 2 => some ([0, 1, 7, 8], [])
  | 3 => some ([0, 1, 7, 8], [])
  | 4 => some ([0, 1, 5, 7, 8], [])
  | 5 => some ([5], [])
  | 6 => some ([0, 1, 7, 8], [])
  | 7 => some ([], [])
  | _ => none
def f34b_C (R_f40 : f40_R) : Fns := (orC 40 (f40_cOf R_f40) noC)
theorem f34b_Cok (R_f40 : f40_R) (hR_f40 : AnsOk Try.prog 40 (f40_cOf R_f40)) : CsOk Try.prog (f34b_C R_f40) := (orC_ok hR_f40 noC_ok)
def f34b_cx (R_f40 : f40_R) (hR_f40 : AnsOk Try.prog 40 (f40_cOf R_f40)) : Cx := mkCx (tabOf rows) (f34b_C R_f40) md (cmpIn cmps) f34b_plan (f34b_Cok R_f40 hR_f40)
def f34b_S1 (v : (List CV) × Int × Int) : St := ⟨[(.sl false (some 2) v.1), (.fn 40 []), .undef, .undef, .undef, .undef, .undef, (.v (CV.int .i64 v.2.1)), (.v (CV.int .i64 v.2.2)), .undef, .undef, .undef, .undef, .undef, .undef, .undef, .undef, .undef, .undef], []⟩
def f34b_T1 {X : Type} (R_f40 : f40_R) (k : Nat) (K : Int → Option X)   (rec1 : (List CV) × Int × Int → Option X) (v4_0 : (List CV) × Int × Int) : Option X :=
(bif (decide (v4_0.2.2 < v4_0.2.1)) then
grd (decide (0 ≤ v4_0.2.2)) <|
Option.bind (v4_0.1)[(Int.toNat v4_0.2.2)]? fun e8 =>
R_f40 _ (fun u9 =>
(bif u9 then
K (v4_0.2.2)
else
rec1 (v4_0.1, v4_0.2.1, (IntKind.wrap .i64 (v4_0.2.2 + 1))))) (e8)
else
K ((-1)))
def f34b_L1 {X : Type} (R_f40 : f40_R) (k : Nat) (K : Int → Option X)  (rec1 : (List CV) × Int × Int → Option X) (v : (List CV) × Int × Int) : Option X := f34b_T1 R_f40 k K   rec1 v
set_option maxRecDepth 100000 in
theorem f34b_L1_ev {X : Type} (R_f40 : f40_R) (hR_f40 : AnsOk Try.prog 40 (f40_cOf R_f40)) (k : Nat) (K : Out → Option X)  (r1 : St → Option X) (v : (List CV) × Int × Int) : loopB (f34b_cx R_f40 hR_f40) k [.r, .l, .r, .b] (Try.f34.body.getD .skip) (retK (f34b_cx R_f40 hR_f40) [] Try.f34.results.toList K) [] r1 (f34b_S1 v) = f34b_T1 R_f40 k (fun u => K (f34b_out u))   (fun v => r1 (f34b_S1 v)) v := by kernel_rfl
theorem f34b_L1_it {X : Type} (R_f40 : f40_R) (hR_f40 : AnsOk Try.prog 40 (f40_cOf R_f40)) (k : Nat) (K : Out → Option X)  : (fun v => iter (loopB (f34b_cx R_f40 hR_f40) k [.r, .l, .r, .b] (Try.f34.body.getD .skip) (retK (f34b_cx R_f40 hR_f40) [] Try.f34.results.toList K) []) k (f34b_S1 v)) = iterV (f34b_L1 R_f40 k (fun u => K (f34b_out u)) ) k :=
  iter_map (fun r1 v => (f34b_L1_ev R_f40 hR_f40 k K  r1 v).trans rfl) k
def f34b_T {X : Type} (R_f40 : f40_R) (k : Nat) (K : Int → Option X) (loop1 : (List CV) × Int × Int → Option X) (x0 : List CV) : Option X :=
loop1 (x0, (Nat.cast ((List.length x0)) : Int), 0)
/-- "slices.IndexFunc[[]outpost/api.Opt,outpost/api.Opt]" -/
def f34b_A (R_f40 : f40_R) (k : Nat) : f34b_R := fun X K x0 => f34b_T R_f40 k K (iterV (f34b_L1 R_f40 k K) k) x0
set_option maxRecDepth 100000 in
theorem f34b_ev' {X : Type} (R_f40 : f40_R) (hR_f40 : AnsOk Try.prog 40 (f40_cOf R_f40)) (k : Nat) (K : Out → Option X) (x0 : List CV) : evFn (f34b_cx R_f40 hR_f40) [] k Try.f34.ntmps Try.f34.results.toList (Try.f34.body.getD .skip) [(.sl false (some 2) x0), (.fn 40 [])] [] K = f34b_T R_f40 k (fun u => K (f34b_out u)) (fun v => iter (loopB (f34b_cx R_f40 hR_f40) k [.r, .l, .r, .b] (Try.f34.body.getD .skip) (retK (f34b_cx R_f40 hR_f40) [] Try.f34.results.toList K) []) k (f34b_S1 v)) x0 := by kernel_rfl
theorem f34b_ev {X : Type} (R_f40 : f40_R) (hR_f40 : AnsOk Try.prog 40 (f40_cOf R_f40)) (k : Nat) (K : Out → Option X) (x0 : List CV) : evFn (f34b_cx R_f40 hR_f40) [] k Try.f34.ntmps Try.f34.results.toList (Try.f34.body.getD .skip) [(.sl false (some 2) x0), (.fn 40 [])] [] K = f34b_A R_f40 k X (fun u => K (f34b_out u)) x0 := (f34b_ev' R_f40 hR_f40 k K x0).trans (by rw [f34b_L1_it R_f40 hR_f40 k K]; rfl)
theorem f34b_okA (R_f40 : f40_R) (hR_f40 : AnsOk Try.prog 40 (f40_cOf R_f40)) (k : Nat) : AnsOk Try.prog 34 (f34b_cOf (f34b_A R_f40 k)) := by
  intro X xs ns K x h
  unfold f34b_cOf at h ⊢
  split at h
  · exact ans_main S (f34b_Cok R_f40 hR_f40) Try.func34 (ent_of Try.func34 (by kernel_rfl) rfl) rfl (fun X K => f34b_ev R_f40 hR_f40 k K _) h
  · cases h
/-- "slices.IndexFunc[[]outpost/api.Opt,outpost/api.Opt]" -/
def f34b {X : Type} (k : Nat) (K : Int → Option X) (x0 : List CV) : Option X := f34b_A (fun X => @f40 X k) k X K x0
theorem f34b_ok (k : Nat) : AnsOk Try.prog 34 (f34b_cOf (fun X => @f34b X k)) := f34b_okA (fun X => @f40 X k) (f40_ok k) k
abbrev f39_R : Type 1 := (X : Type) → (Bool → Option X) → (List CV) → Option X
def f39_out (u : Bool) : Out := ⟨(.v (CV.bool u)), []⟩
def f39_cOf (R : f39_R) : FnC := fun X xs ns K => match xs, ns with
  | [(.sl false (some 2) x0), (.fn 40 [])], [] => R X (fun u => K (f39_out u)) x0
  | _, _ => none
def f39_is (xs : List AVal) (ns : Nodes) : Bool := match xs, ns with
  | [(.sl false (some 2) x0), (.fn 40 [])], [] => true
  | _, _ => false
def f39_plan : Nat → Option (List Nat × List Wk)
  | 0 => some ([0, 1], [])
  | 1 => some ([0, 1], [])
  | _ => none
def f39_C (R_f34b : f34b_R) : Fns := (orC 34 (f34b_cOf R_f34b) noC)
theorem f39_Cok (R_f34b : f34b_R) (hR_f34b : AnsOk Try.prog 34 (f34b_cOf R_f34b)) : CsOk Try.prog (f39_C R_f34b) := (orC_ok hR_f34b noC_ok)
def f39_cx (R_f34b : f34b_R) (hR_f34b : AnsOk Try.prog 34 (f34b_cOf R_f34b)) : Cx := mkCx (tabOf rows) (f39_C R_f34b) md (cmpIn cmps) f39_plan (f39_Cok R_f34b hR_f34b)
def f39_T {X : Type} (R_f34b : f34b_R) (k : Nat) (K : Bool → Option X)  (x0 : List CV) : Option X :=
R_f34b _ (fun u1 =>
K ((decide (u1 ≥ 0)))) (x0)
/-- "slices.ContainsFunc[[]outpost/api.Opt,outpost/api.Opt]" -/
def f39_A (R_f34b : f34b_R) (k : Nat) : f39_R := fun X K x0 => f39_T R_f34b k K  x0
set_option maxRecDepth 100000 in
theorem f39_ev' {X : Type} (R_f34b : f34b_R) (hR_f34b : AnsOk Try.prog 34 (f34b_cOf R_f34b)) (k : Nat) (K : Out → Option X) (x0 : List CV) : evFn (f39_cx R_f34b hR_f34b) [] k Try.f39.ntmps Try.f39.results.toList (Try.f39.body.getD .skip) [(.sl false (some 2) x0), (.fn 40 [])] [] K = f39_T R_f34b k (fun u => K (f39_out u)) x0 := by kernel_rfl
theorem f39_ev {X : Type} (R_f34b : f34b_R) (hR_f34b : AnsOk Try.prog 34 (f34b_cOf R_f34b)) (k : Nat) (K : Out → Option X) (x0 : List CV) : evFn (f39_cx R_f34b hR_f34b) [] k Try.f39.ntmps Try.f39.results.toList (Try.f39.body.getD .skip) [(.sl false (some 2) x0), (.fn 40 [])] [] K = f39_A R_f34b k X (fun u => K (f39_out u)) x0 := (f39_ev' R_f34b hR_f34b k K x0).trans rfl
theorem f39_okA (R_f34b : f34b_R) (hR_f34b : AnsOk Try.prog 34 (f34b_cOf R_f34b)) (k : Nat) : AnsOk Try.prog 39 (f39_cOf (f39_A R_f34b k)) := by
  intro X xs ns K x h
  unfold f39_cOf at h ⊢
  split at h
  · exact ans_main S (f39_Cok R_f34b hR_f34b) Try.func39 (ent_of Try.func39 (by kernel_rfl) rfl) rfl (fun X K => f39_ev R_f34b hR_f34b k K _) h
  · cases h
/-- "slices.ContainsFunc[[]outpost/api.Opt,outpost/api.Opt]" -/
def f39 {X : Type} (k : Nat) (K : Bool → Option X) (x0 : List CV) : Option X := f39_A (fun X => @f34b X k) k X K x0
theorem f39_ok (k : Nat) : AnsOk Try.prog 39 (f39_cOf (fun X => @f39 X k)) := f39_okA (fun X => @f34b X k) (f34b_ok k) k
abbrev f41_R : Type 1 := (X : Type) → (Bool → Option X) → CV → Option X
def f41_out (u : Bool) : Out := ⟨(.v (CV.bool u)), []⟩
def f41_cOf (R : f41_R) : FnC := fun X xs ns K => match xs, ns with
  | [(.v x0)], [] => R X (fun u => K (f41_out u)) x0
  | _, _ => none
def f41_plan : Nat → Option (List Nat × List Wk)
  | 0 => some ([0], [])
  | 1 => some ([1], [])
  | _ => none
def f41_C : Fns := noC
theorem f41_Cok : CsOk Try.prog (f41_C) := noC_ok
def f41_cx : Cx := mkCx (tabOf rows) (f41_C) md (cmpIn cmps) f41_plan (f41_Cok)
def f41_T {X : Type} (k : Nat) (K : Bool → Option X)  (x0 : CV) : Option X :=
grd (CV.isA 2 x0) <|
grd (CV.isI .i64 (CV.cellD 0 x0)) <|
grd (CV.isL none (CV.cellD 1 x0)) <|
K ((decide ((Nat.cast ((List.length (CV.toL (CV.cellD 1 x0)))) : Int) > 300)))
/-- "outpost/opt.fault$2" -/
def f41_A (k : Nat) : f41_R := fun X K x0 => f41_T k K  x0
set_option maxRecDepth 100000 in
theorem f41_ev' {X : Type} (k : Nat) (K : Out → Option X) (x0 : CV) : evFn (f41_cx) [] k Try.f41.ntmps Try.f41.results.toList (Try.f41.body.getD .skip) [(.v x0)] [] K = f41_T k (fun u => K (f41_out u)) x0 := by kernel_rfl
theorem f41_ev {X : Type} (k : Nat) (K : Out → Option X) (x0 : CV) : evFn (f41_cx) [] k Try.f41.ntmps Try.f41.results.toList (Try.f41.body.getD .skip) [(.v x0)] [] K = f41_A k X (fun u => K (f41_out u)) x0 := (f41_ev' k K x0).trans rfl
theorem f41_okA (k : Nat) : AnsOk Try.prog 41 (f41_cOf (f41_A k)) := by
  intro X xs ns K x h
  unfold f41_cOf at h ⊢
  split at h
  · exact ans_main S (f41_Cok) Try.func41 (ent_of Try.func41 (by kernel_rfl) rfl) rfl (fun X K => f41_ev k K _) h
  · cases h
/-- "outpost/opt.fault$2" -/
def f41 {X : Type} (k : Nat) (K : Bool → Option X) (x0 : CV) : Option X := f41_A k X K x0
theorem f41_ok (k : Nat) : AnsOk Try.prog 41 (f41_cOf (fun X => @f41 X k)) := f41_okA k
abbrev f34c_R : Type 1 := (X : Type) → (Int → Option X) → (List CV) → Option X
def f34c_out (u : Int) : Out := ⟨(.v (CV.int .i64 u)), []⟩
def f34c_cOf (R : f34c_R) : FnC := fun X xs ns K => match xs, ns with
  | [(.sl false (some 2) x0), (.fn 41 [])], [] => R X (fun u => K (f34c_out u)) x0
  | _, _ => none
def f34c_is (xs : List AVal) (ns : Nodes) : Bool := match xs, ns with
  | [(.sl false (some 2) x0), (.fn 41 [])], [] => true
  | _, _ => false
def f34c_plan : Nat → Option (List Nat × List Wk)
  | 0 => some ([0, 1], [])
  | 1 => some ([0, 1], [])
  | 2 => some ([0, 1, 7, 8], [])
  | 3 => some ([0, 1, 7, 8], [])
  | 4 => some ([0, 1, 5, 7, 8], [])
  | 5 => some ([5], [])
  | 6 => some ([0, 1, 7, 8], [])
  | 7 => some ([], [])
  | _ => none
def f34c_C (R_f41 : f41_R) : Fns := (orC 41 (f41_cOf R_f41) noC)
theorem f34c_Cok (R_f41 : f41_R) (hR_f41 : AnsOk Try.prog 41 (f41_cOf R_f41)) : CsOk Try.prog (f34c_C R_f41) := (orC_ok hR_f41 noC_ok)
def f34c_cx (R_f41 : f41_R) (hR_f41 : AnsOk Try.prog 41 (f41_cOf R_f41)) : Cx := mkCx (tabOf rows) (f34c_C R_f41) md (cmpIn cmps) f34c_plan (f34c_Cok R_f41 hR_f41)
def f34c_S1 (v : (List CV) × Int × Int) : St := ⟨[(.sl false (some 2) v.1), (.fn 41 []), .undef, .undef, .undef, .undef, .undef, (.v (CV.int .i64 v.2.1)), (.v (CV.int .i64 v.2.2)), .undef, .undef, .undef, .undef, .undef, .undef, .undef, .undef, .undef, .undef], []⟩
def f34c_T1 {X : Type} (R_f41 : f41_R) (k : Nat) (K : Int → Option X)   (rec1 : (List CV) × Int × Int → Option X) (v4_0 : (List CV) × Int × Int) : Option X :=
(bif (decide (v4_0.2.2 < v4_0.2.1)) then
grd (decide (0 ≤ v4_0.2.2)) <|
Option.bind (v4_0.1)[(Int.toNat v4_0.2.2)]? fun e8 =>
R_f41 _ (fun u9 =>
(bif u9 then
K (v4_0.2.2)
else
rec1 (v4_0.1, v4_0.2.1, (IntKind.wrap .i64 (v4_0.2.2 + 1))))) (e8)
else
K ((-1)))
def f34c_L1 {X : Type} (R_f41 : f41_R) (k : Nat) (K : Int → Option X)  (rec1 : (List CV) × Int × Int → Option X) (v : (List CV) × Int × Int) : Option X := f34c_T1 R_f41 k K   rec1 v
set_option maxRecDepth 100000 in
theorem f34c_L1_ev {X : Type} (R_f41 : f41_R) (hR_f41 : AnsOk Try.prog 41 (f41_cOf R_f41)) (k : Nat) (K : Out → Option X)  (r1 : St → Option X) (v : (List CV) × Int × Int) : loopB (f34c_cx R_f41 hR_f41) k [.r, .l, .r, .b] (Try.f34.body.getD .skip) (retK (f34c_cx R_f41 hR_f41) [] Try.f34.results.toList K) [] r1 (f34c_S1 v) = f34c_T1 R_f41 k (fun u => K (f34c_out u))   (fun v => r1 (f34c_S1 v)) v := by kernel_rfl
theorem f34c_L1_it {X : Type} (R_f41 : f41_R) (hR_f41 : AnsOk Try.prog 41 (f41_cOf R_f41)) (k : Nat) (K : Out → Option X)  : (fun v => iter (loopB (f34c_cx R_f41 hR_f41) k [.r, .l, .r, .b] (Try.f34.body.getD .skip) (retK (f34c_cx R_f41 hR_f41) [] Try.f34.results.toList K) []) k (f34c_S1 v)) = iterV (f34c_L1 R_f41 k (fun u => K (f34c_out u)) ) k :=
  iter_map (fun r1 v => (f34c_L1_ev R_f41 hR_f41 k K  r1 v).trans rfl) k
def f34c_T {X : Type} (R_f41 : f41_R) (k : Nat) (K : Int → Option X) (loop1 : (List CV) × Int × Int → Option X) (x0 : List CV) : Option X :=
loop1 (x0, (Nat.cast ((List.length x0)) : Int), 0)
/-- "slices.IndexFunc[[]outpost/api.Opt,outpost/api.Opt]" -/
def f34c_A (R_f41 : f41_R) (k : Nat) : f34c_R := fun X K x0 => f34c_T R_f41 k K (iterV (f34c_L1 R_f41 k K) k) x0
set_option maxRecDepth 100000 in
theorem f34c_ev' {X : Type} (R_f41 : f41_R) (hR_f41 : AnsOk Try.prog 41 (f41_cOf R_f41)) (k : Nat) (K : Out → Option X) (x0 : List CV) : evFn (f34c_cx R_f41 hR_f41) [] k Try.f34.ntmps Try.f34.results.toList (Try.f34.body.getD .skip) [(.sl false (some 2) x0), (.fn 41 [])] [] K = f34c_T R_f41 k (fun u => K (f34c_out u)) (fun v => iter (loopB (f34c_cx R_f41 hR_f41) k [.r, .l, .r, .b] (Try.f34.body.getD .skip) (retK (f34c_cx R_f41 hR_f41) [] Try.f34.results.toList K) []) k (f34c_S1 v)) x0 := by kernel_rfl
theorem f34c_ev {X : Type} (R_f41 : f41_R) (hR_f41 : AnsOk Try.prog 41 (f41_cOf R_f41)) (k : Nat) (K : Out → Option X) (x0 : List CV) : evFn (f34c_cx R_f41 hR_f41) [] k Try.f34.ntmps Try.f34.results.toList (Try.f34.body.getD .skip) [(.sl false (some 2) x0), (.fn 41 [])] [] K = f34c_A R_f41 k X (fun u => K (f34c_out u)) x0 := (f34c_ev' R_f41 hR_f41 k K x0).trans (by rw [f34c_L1_it R_f41 hR_f41 k K]; rfl)
theorem f34c_okA (R_f41 : f41_R) (hR_f41 : AnsOk Try.prog 41 (f41_cOf R_f41)) (k : Nat) : AnsOk Try.prog 34 (f34c_cOf (f34c_A R_f41 k)) := by
  intro X xs ns K x h
  unfold f34c_cOf at h ⊢
  split at h
  · exact ans_main S (f34c_Cok R_f41 hR_f41) Try.func34 (ent_of Try.func34 (by kernel_rfl) rfl) rfl (fun X K => f34c_ev R_f41 hR_f41 k K _) h
  · cases h
/-- "slices.IndexFunc[[]outpost/api.Opt,outpost/api.Opt]" -/
def f34c {X : Type} (k : Nat) (K : Int → Option X) (x0 : List CV) : Option X := f34c_A (fun X => @f41 X k) k X K x0
theorem f34c_ok (k : Nat) : AnsOk Try.prog 34 (f34c_cOf (fun X => @f34c X k)) := f34c_okA (fun X => @f41 X k) (f41_ok k) k
abbrev f39b_R : Type 1 := (X : Type) → (Bool → Option X) → (List CV) → Option X
def f39b_out (u : Bool) : Out := ⟨(.v (CV.bool u)), []⟩
def f39b_cOf (R : f39b_R) : FnC := fun X xs ns K => match xs, ns with
  | [(.sl false (some 2) x0), (.fn 41 [])], [] => R X (fun u => K (f39b_out u)) x0
  | _, _ => none
def f39b_is (xs : List AVal) (ns : Nodes) : Bool := match xs, ns with
  | [(.sl false (some 2) x0), (.fn 41 [])], [] => true
  | _, _ => false
def f39b_plan : Nat → Option (List Nat × List Wk)
  | 0 => some ([0, 1], [])
  | 1 => some ([0, 1], [])
  | _ => none
def f39b_C (R_f34c : f34c_R) : Fns := (orC 34 (f34c_cOf R_f34c) noC)
theorem f39b_Cok (R_f34c : f34c_R) (hR_f34c : AnsOk Try.prog 34 (f34c_cOf R_f34c)) : CsOk Try.prog (f39b_C R_f34c) := (orC_ok hR_f34c noC_ok)
def f39b_cx (R_f34c : f34c_R) (hR_f34c : AnsOk Try.prog 34 (f34c_cOf R_f34c)) : Cx := mkCx (tabOf rows) (f39b_C R_f34c) md (cmpIn cmps) f39b_plan (f39b_Cok R_f34c hR_f34c)
def f39b_T {X : Type} (R_f34c : f34c_R) (k : Nat) (K : Bool → Option X)  (x0 : List CV) : Option X :=
R_f34c _ (fun u1 =>
K ((decide (u1 ≥ 0)))) (x0)
/-- "slices.ContainsFunc[[]outpost/api.Opt,outpost/api.Opt]" -/
def f39b_A (R_f34c : f34c_R) (k : Nat) : f39b_R := fun X K x0 => f39b_T R_f34c k K  x0
set_option maxRecDepth 100000 in
theorem f39b_ev' {X : Type} (R_f34c : f34c_R) (hR_f34c : AnsOk Try.prog 34 (f34c_cOf R_f34c)) (k : Nat) (K : Out → Option X) (x0 : List CV) : evFn (f39b_cx R_f34c hR_f34c) [] k Try.f39.ntmps Try.f39.results.toList (Try.f39.body.getD .skip) [(.sl false (some 2) x0), (.fn 41 [])] [] K = f39b_T R_f34c k (fun u => K (f39b_out u)) x0 := by kernel_rfl
theorem f39b_ev {X : Type} (R_f34c : f34c_R) (hR_f34c : AnsOk Try.prog 34 (f34c_cOf R_f34c)) (k : Nat) (K : Out → Option X) (x0 : List CV) : evFn (f39b_cx R_f34c hR_f34c) [] k Try.f39.ntmps Try.f39.results.toList (Try.f39.body.getD .skip) [(.sl false (some 2) x0), (.fn 41 [])] [] K = f39b_A R_f34c k X (fun u => K (f39b_out u)) x0 := (f39b_ev' R_f34c hR_f34c k K x0).trans rfl
theorem f39b_okA (R_f34c : f34c_R) (hR_f34c : AnsOk Try.prog 34 (f34c_cOf R_f34c)) (k : Nat) : AnsOk Try.prog 39 (f39b_cOf (f39b_A R_f34c k)) := by
  intro X xs ns K x h
  unfold f39b_cOf at h ⊢
  split at h
  · exact ans_main S (f39b_Cok R_f34c hR_f34c) Try.func39 (ent_of Try.func39 (by kernel_rfl) rfl) rfl (fun X K => f39b_ev R_f34c hR_f34c k K _) h
  · cases h
/-- "slices.ContainsFunc[[]outpost/api.Opt,outpost/api.Opt]" -/
def f39b {X : Type} (k : Nat) (K : Bool → Option X) (x0 : List CV) : Option X := f39b_A (fun X => @f34c X k) k X K x0
theorem f39b_ok (k : Nat) : AnsOk Try.prog 39 (f39b_cOf (fun X => @f39b X k)) := f39b_okA (fun X => @f34c X k) (f34c_ok k) k
abbrev f25_R : Type 1 := (X : Type) → (Int → Option X) → (List CV) → Option X
def f25_out (u : Int) : Out := ⟨(.v (CV.int .i64 u)), []⟩
def f25_cOf (R : f25_R) : FnC := fun X xs ns K => match xs, ns with
  | [(.sl false (some 2) x0)], [] => R X (fun u => K (f25_out u)) x0
  | _, _ => none
def f25_plan : Nat → Option (List Nat × List Wk)
  | 0 => some ([0], [])
  | 1 => some ([0], [])
  | 2 => some ([], [])
  | 3 => some ([0], [])
  | 4 => some ([], [])
  | 5 => some ([0], [])
  | 6 => some ([], [])
  | 7 => some ([], [])
  | _ => none
def f25_C (R_f39 : f39_R) (R_f39b : f39b_R) : Fns := (orC 39 (orF (f39b_cOf R_f39b) (f39_cOf R_f39) f39b_is) noC)
theorem f25_Cok (R_f39 : f39_R) (R_f39b : f39b_R) (hR_f39 : AnsOk Try.prog 39 (f39_cOf R_f39)) (hR_f39b : AnsOk Try.prog 39 (f39b_cOf R_f39b)) : CsOk Try.prog (f25_C R_f39 R_f39b) := (orC_ok (orF_ok hR_f39b hR_f39) noC_ok)
def f25_cx (R_f39 : f39_R) (R_f39b : f39b_R) (hR_f39 : AnsOk Try.prog 39 (f39_cOf R_f39)) (hR_f39b : AnsOk Try.prog 39 (f39b_cOf R_f39b)) : Cx := mkCx (tabOf rows) (f25_C R_f39 R_f39b) md (cmpIn cmps) f25_plan (f25_Cok R_f39 R_f39b hR_f39 hR_f39b)
def f25_T {X : Type} (R_f39 : f39_R) (R_f39b : f39b_R) (k : Nat) (K : Int → Option X)  (x0 : List CV) : Option X :=
(bif (decide ((Nat.cast ((List.length x0)) : Int) > 24)) then
K (3)
else
R_f39 _ (fun u2 =>
(bif u2 then
K (1)
else
R_f39b _ (fun u4 =>
(bif u4 then
K (2)
else
K (0))) (x0))) (x0))
/-- "outpost/opt.fault" -/
def f25_A (R_f39 : f39_R) (R_f39b : f39b_R) (k : Nat) : f25_R := fun X K x0 => f25_T R_f39 R_f39b k K  x0
set_option maxRecDepth 100000 in
theorem f25_ev' {X : Type} (R_f39 : f39_R) (R_f39b : f39b_R) (hR_f39 : AnsOk Try.prog 39 (f39_cOf R_f39)) (hR_f39b : AnsOk Try.prog 39 (f39b_cOf R_f39b)) (k : Nat) (K : Out → Option X) (x0 : List CV) : evFn (f25_cx R_f39 R_f39b hR_f39 hR_f39b) [] k Try.f25.ntmps Try.f25.results.toList (Try.f25.body.getD .skip) [(.sl false (some 2) x0)] [] K = f25_T R_f39 R_f39b k (fun u => K (f25_out u)) x0 := by kernel_rfl
theorem f25_ev {X : Type} (R_f39 : f39_R) (R_f39b : f39b_R) (hR_f39 : AnsOk Try.prog 39 (f39_cOf R_f39)) (hR_f39b : AnsOk Try.prog 39 (f39b_cOf R_f39b)) (k : Nat) (K : Out → Option X) (x0 : List CV) : evFn (f25_cx R_f39 R_f39b hR_f39 hR_f39b) [] k Try.f25.ntmps Try.f25.results.toList (Try.f25.body.getD .skip) [(.sl false (some 2) x0)] [] K = f25_A R_f39 R_f39b k X (fun u => K (f25_out u)) x0 := (f25_ev' R_f39 R_f39b hR_f39 hR_f39b k K x0).trans rfl
theorem f25_okA (R_f39 : f39_R) (R_f39b : f39b_R) (hR_f39 : AnsOk Try.prog 39 (f39_cOf R_f39)) (hR_f39b : AnsOk Try.prog 39 (f39b_cOf R_f39b)) (k : Nat) : AnsOk Try.prog 25 (f25_cOf (f25_A R_f39 R_f39b k)) := by
  intro X xs ns K x h
  unfold f25_cOf at h ⊢
  split at h
  · exact ans_main S (f25_Cok R_f39 R_f39b hR_f39 hR_f39b) Try.func25 (ent_of Try.func25 (by kernel_rfl) rfl) rfl (fun X K => f25_ev R_f39 R_f39b hR_f39 hR_f39b k K _) h
  · cases h
/-- "outpost/opt.fault" -/
def f25 {X : Type} (k : Nat) (K : Int → Option X) (x0 : List CV) : Option X := f25_A (fun X => @f39 X k) (fun X => @f39b X k) k X K x0
theorem f25_ok (k : Nat) : AnsOk Try.prog 25 (f25_cOf (fun X => @f25 X k)) := f25_okA (fun X => @f39 X k) (fun X => @f39b X k) (f39_ok k) (f39b_ok k) k
def f42_plan : Nat → Option (List Nat × List Wk)
  | 0 => some ([0], [])
  | 1 => some ([0], [])
  | 2 => some ([], [])
  | 3 => some ([0], [])
  | _ => none
def f42_cx : Cx := mkCx (tabOf rows) noC md (cmpIn cmps) f42_plan (noC_ok (P := Try.prog))
/-- "slices.Clone[[]outpost/api.Opt,outpost/api.Opt]" -/
def f42 {X : Type} (k : Nat) (K : List CV → Option X) (x0 : List CV) : Option X := grd (decide ((0 + List.length x0) * 32 ≤ 140737488355328)) (K x0)
def f42_out (u : List CV) : Out := ⟨.osl [2000] (some 2) 0 (List.length u), [([2000], .row false (some 2) u)]⟩
set_option maxRecDepth 100000 in
theorem f42_fn (x0 : List CV) (hl : (decide ((0 + List.length x0) * 32 ≤ 140737488355328)) = true) : FnOk Try.prog 42 [.sl false (some 2) x0] [] (f42_out x0) := by
  refine nilsplit (cx := f42_cx) (xs := x0) (p := false) (sh := (some 2)) (fuel := 1) (ws := [⟨0, [], some [2000]⟩]) (tabOf_tabOk S.hr) (tabOf_noOther S.hr) (CsOk.fns (noC_ok (P := Try.prog)) (cmpsAre_ok cmps_ok)) S.hm Try.func42 rfl rfl Try.underlying22 (s1 := ⟨[(.sl false (some 2) x0), .undef, (.nil0 (some 2)), .undef, .undef, .undef, .undef, .undef], []⟩) (s2 := ⟨[(.sl false (some 2) x0), .undef, .undef, .undef, .undef, .undef, .undef, .undef], []⟩) (s3 := ⟨[(.sl false (some 2) x0), .undef, .undef, (.sl false (some 2) x0), .undef, .undef, .undef, .undef], []⟩) ?_ ?_ ?_ rfl ?_ (fun h => ?_) ⟨rfl, rfl⟩
  · kernel_rfl
  · kernel_rfl
  · kernel_rfl
  · refine Eq.trans (b := grd (decide ((0 + List.length x0) * 32 ≤ 140737488355328)) (some ⟨.osl [2000] (some 2) 0 (0 + List.length x0), [([2000], .row false (some 2) (List.take (0 + (0 + List.length x0)) (List.take 0 [] ++ x0)))]⟩)) (by kernel_rfl) ?_
    rw [hl]
    simp [grd, f42_out]
  · subst h
    kernel_rfl
abbrev f42_R : Type 1 := (X : Type) → (List CV → Option X) → List CV → Option X
def f42_cOf (R : f42_R) : FnC := fun X xs ns K => match xs, ns with
  | [.sl false (some 2) x0], [] => R X (fun u => K (f42_out u)) x0
  | _, _ => none
theorem f42_ok (k : Nat) : AnsOk Try.prog 42 (f42_cOf (fun X => @f42 X k)) := by
  intro X xs ns K x h
  unfold f42_cOf at h ⊢
  split at h
  · next x0 =>
    obtain ⟨h1, h2⟩ := grd_some (show grd (decide ((0 + List.length x0) * 32 ≤ 140737488355328)) (K (f42_out x0)) = some x from h)
    exact ⟨trivial, _, (f42_fn x0 h1).toX (ent_of Try.func42 (by kernel_rfl) rfl), h2, fun Y K' => by show grd _ _ = _; rw [h1]; rfl⟩
  · cases h
abbrev f50_R : Type 1 := (X : Type) → (Bool → Option X) → Int → Option X
def f50_out (u : Bool) : Out := ⟨(.v (CV.bool u)), []⟩
def f50_cOf (R : f50_R) : FnC := fun X xs ns K => match xs, ns with
  | [(.v (CV.int .i64 x0))], [] => R X (fun u => K (f50_out u)) x0
  | _, _ => none
def f50_plan : Nat → Option (List Nat × List Wk)
  | 0 => some ([0], [])
  | 1 => some ([0], [])
  | _ => none
def f50_C : Fns := noC
theorem f50_Cok : CsOk Try.prog (f50_C) := noC_ok
def f50_cx : Cx := mkCx (tabOf rows) (f50_C) md (cmpIn cmps) f50_plan (f50_Cok)
def f50_T {X : Type} (k : Nat) (K : Bool → Option X)  (x0 : Int) : Option X :=
K ((x0 != x0))
/-- "cmp.isNaN[int]" -/
def f50_A (k : Nat) : f50_R := fun X K x0 => f50_T k K  x0
set_option maxRecDepth 100000 in
theorem f50_ev' {X : Type} (k : Nat) (K : Out → Option X) (x0 : Int) : evFn (f50_cx) [] k Try.f50.ntmps Try.f50.results.toList (Try.f50.body.getD .skip) [(.v (CV.int .i64 x0))] [] K = f50_T k (fun u => K (f50_out u)) x0 := by kernel_rfl
theorem f50_ev {X : Type} (k : Nat) (K : Out → Option X) (x0 : Int) : evFn (f50_cx) [] k Try.f50.ntmps Try.f50.results.toList (Try.f50.body.getD .skip) [(.v (CV.int .i64 x0))] [] K = f50_A k X (fun u => K (f50_out u)) x0 := (f50_ev' k K x0).trans rfl
theorem f50_okA (k : Nat) : AnsOk Try.prog 50 (f50_cOf (f50_A k)) := by
  intro X xs ns K x h
  unfold f50_cOf at h ⊢
  split at h
  · exact ans_main S (f50_Cok) Try.func50 (ent_of Try.func50 (by kernel_rfl) rfl) rfl (fun X K => f50_ev k K _) h
  · cases h
/-- "cmp.isNaN[int]" -/
def f50 {X : Type} (k : Nat) (K : Bool → Option X) (x0 : Int) : Option X := f50_A k X K x0
theorem f50_ok (k : Nat) : AnsOk Try.prog 50 (f50_cOf (fun X => @f50 X k)) := f50_okA k
abbrev f45_R : Type 1 := (X : Type) → (Int → Option X) → Int → Int → Option X
def f45_out (u : Int) : Out := ⟨(.v (CV.int .i64 u)), []⟩
def f45_cOf (R : f45_R) : FnC := fun X xs ns K => match xs, ns with
  | [(.v (CV.int .i64 x0)), (.v (CV.int .i64 x1))], [] => R X (fun u => K (f45_out u)) x0 x1
  | _, _ => none
def f45_plan : Nat → Option (List Nat × List Wk)
  | 0 => some ([0, 1], [])
  | 1 => some ([0, 1], [])
  | 2 => some ([0, 1, 5], [])
  | 3 => some ([0, 1, 5, 6], [])
  | 4 => some ([6], [])
  | 5 => some ([], [])
  | 6 => some ([], [])
  | 7 => some ([0, 1, 6], [])
  | 8 => some ([], [])
  | 9 => some ([0, 1], [])
  | 10 => some ([], [])
  | 11 => some ([0, 1], [])
  | 12 => some ([], [])
  | 13 => some ([], [])
  | _ => none
def f45_C (R_f50 : f50_R) : Fns := (orC 50 (f50_cOf R_f50) noC)
theorem f45_Cok (R_f50 : f50_R) (hR_f50 : AnsOk Try.prog 50 (f50_cOf R_f50)) : CsOk Try.prog (f45_C R_f50) := (orC_ok hR_f50 noC_ok)
def f45_cx (R_f50 : f50_R) (hR_f50 : AnsOk Try.prog 50 (f50_cOf R_f50)) : Cx := mkCx (tabOf rows) (f45_C R_f50) md (cmpIn cmps) f45_plan (f45_Cok R_f50 hR_f50)
def f45_T {X : Type} (R_f50 : f50_R) (k : Nat) (K : Int → Option X)  (x0 : Int) (x1 : Int) : Option X :=
R_f50 _ (fun u1 =>
R_f50 _ (fun u2 =>
(bif u1 then
(bif u2 then
K (0)
else
K ((-1)))
else
(bif u2 then
K (1)
else
(bif (decide (x0 < x1)) then
K ((-1))
else
(bif (decide (x0 > x1)) then
K (1)
else
K (0)))))) (x1)) (x0)
/-- "cmp.Compare[int]" -/
def f45_A (R_f50 : f50_R) (k : Nat) : f45_R := fun X K x0 x1 => f45_T R_f50 k K  x0 x1
set_option maxRecDepth 100000 in
theorem f45_ev' {X : Type} (R_f50 : f50_R) (hR_f50 : AnsOk Try.prog 50 (f50_cOf R_f50)) (k : Nat) (K : Out → Option X) (x0 : Int) (x1 : Int) : evFn (f45_cx R_f50 hR_f50) [] k Try.f45.ntmps Try.f45.results.toList (Try.f45.body.getD .skip) [(.v (CV.int .i64 x0)), (.v (CV.int .i64 x1))] [] K = f45_T R_f50 k (fun u => K (f45_out u)) x0 x1 := by kernel_rfl
theorem f45_ev {X : Type} (R_f50 : f50_R) (hR_f50 : AnsOk Try.prog 50 (f50_cOf R_f50)) (k : Nat) (K : Out → Option X) (x0 : Int) (x1 : Int) : evFn (f45_cx R_f50 hR_f50) [] k Try.f45.ntmps Try.f45.results.toList (Try.f45.body.getD .skip) [(.v (CV.int .i64 x0)), (.v (CV.int .i64 x1))] [] K = f45_A R_f50 k X (fun u => K (f45_out u)) x0 x1 := (f45_ev' R_f50 hR_f50 k K x0 x1).trans rfl
theorem f45_okA (R_f50 : f50_R) (hR_f50 : AnsOk Try.prog 50 (f50_cOf R_f50)) (k : Nat) : AnsOk Try.prog 45 (f45_cOf (f45_A R_f50 k)) := by
  intro X xs ns K x h
  unfold f45_cOf at h ⊢
  split at h
  · exact ans_main S (f45_Cok R_f50 hR_f50) Try.func45 (ent_of Try.func45 (by kernel_rfl) rfl) rfl (fun X K => f45_ev R_f50 hR_f50 k K _ _) h
  · cases h
/-- "cmp.Compare[int]" -/
def f45 {X : Type} (k : Nat) (K : Int → Option X) (x0 : Int) (x1 : Int) : Option X := f45_A (fun X => @f50 X k) k X K x0 x1
theorem f45_ok (k : Nat) : AnsOk Try.prog 45 (f45_cOf (fun X => @f45 X k)) := f45_okA (fun X => @f50 X k) (f50_ok k) k
abbrev f44_R : Type 1 := (X : Type) → (Int → Option X) → CV → CV → Option X
def f44_out (u : Int) : Out := ⟨(.v (CV.int .i64 u)), []⟩
def f44_cOf (R : f44_R) : FnC := fun X xs ns K => match xs, ns with
  | [(.v x0), (.v x1)], [] => R X (fun u => K (f44_out u)) x0 x1
  | _, _ => none
def f44_plan : Nat → Option (List Nat × List Wk)
  | 0 => some ([0, 1], [])
  | 1 => some ([2, 3], [])
  | _ => none
def f44_C (R_f45 : f45_R) : Fns := (orC 45 (f45_cOf R_f45) noC)
theorem f44_Cok (R_f45 : f45_R) (hR_f45 : AnsOk Try.prog 45 (f45_cOf R_f45)) : CsOk Try.prog (f44_C R_f45) := (orC_ok hR_f45 noC_ok)
def f44_cx (R_f45 : f45_R) (hR_f45 : AnsOk Try.prog 45 (f45_cOf R_f45)) : Cx := mkCx (tabOf rows) (f44_C R_f45) md (cmpIn cmps) f44_plan (f44_Cok R_f45 hR_f45)
def f44_T {X : Type} (R_f45 : f45_R) (k : Nat) (K : Int → Option X)  (x0 : CV) (x1 : CV) : Option X :=
grd (CV.isA 2 x0) <|
grd (CV.isI .i64 (CV.cellD 0 x0)) <|
grd (CV.isL none (CV.cellD 1 x0)) <|
grd (CV.isA 2 x1) <|
grd (CV.isI .i64 (CV.cellD 0 x1)) <|
grd (CV.isL none (CV.cellD 1 x1)) <|
R_f45 _ (fun u1 =>
K (u1)) ((CV.toI (CV.cellD 0 x0))) ((CV.toI (CV.cellD 0 x1)))
/-- "outpost/opt.byNum$1" -/
def f44_A (R_f45 : f45_R) (k : Nat) : f44_R := fun X K x0 x1 => f44_T R_f45 k K  x0 x1
set_option maxRecDepth 100000 in
theorem f44_ev' {X : Type} (R_f45 : f45_R) (hR_f45 : AnsOk Try.prog 45 (f45_cOf R_f45)) (k : Nat) (K : Out → Option X) (x0 : CV) (x1 : CV) : evFn (f44_cx R_f45 hR_f45) [] k Try.f44.ntmps Try.f44.results.toList (Try.f44.body.getD .skip) [(.v x0), (.v x1)] [] K = f44_T R_f45 k (fun u => K (f44_out u)) x0 x1 := by kernel_rfl
theorem f44_ev {X : Type} (R_f45 : f45_R) (hR_f45 : AnsOk Try.prog 45 (f45_cOf R_f45)) (k : Nat) (K : Out → Option X) (x0 : CV) (x1 : CV) : evFn (f44_cx R_f45 hR_f45) [] k Try.f44.ntmps Try.f44.results.toList (Try.f44.body.getD .skip) [(.v x0), (.v x1)] [] K = f44_A R_f45 k X (fun u => K (f44_out u)) x0 x1 := (f44_ev' R_f45 hR_f45 k K x0 x1).trans rfl
theorem f44_okA (R_f45 : f45_R) (hR_f45 : AnsOk Try.prog 45 (f45_cOf R_f45)) (k : Nat) : AnsOk Try.prog 44 (f44_cOf (f44_A R_f45 k)) := by
  intro X xs ns K x h
  unfold f44_cOf at h ⊢
  split at h
  · exact ans_main S (f44_Cok R_f45 hR_f45) Try.func44 (ent_of Try.func44 (by kernel_rfl) rfl) rfl (fun X K => f44_ev R_f45 hR_f45 k K _ _) h
  · cases h
/-- "outpost/opt.byNum$1" -/
def f44 {X : Type} (k : Nat) (K : Int → Option X) (x0 : CV) (x1 : CV) : Option X := f44_A (fun X => @f45 X k) k X K x0 x1
theorem f44_ok (k : Nat) : AnsOk Try.prog 44 (f44_cOf (fun X => @f44 X k)) := f44_okA (fun X => @f45 X k) (f45_ok k) k
abbrev f52_R : Type 1 := (X : Type) → ((List CV) → Option X) → Nat → Int → Int → (List CV) → Option X
def f52_out (u : (List CV)) : Out := ⟨(.tup []), [([1000], (.row false (some 2) u))]⟩
def f52_cOf (R : f52_R) : FnC := fun X xs ns K => match xs, ns with
  | [(.osl [1000] (some 2) 0 x0), (.v (CV.int .i64 x1)), (.v (CV.int .i64 x2)), (.fn 44 [])], [([1000], (.row false (some 2) x3))] => R X (fun u => K (f52_out u)) x0 x1 x2 x3
  | _, _ => none
def f52_plan : Nat → Option (List Nat × List Wk)
  | 0 => some ([0, 1, 2, 3], [])
  | 1 => some ([0, 1, 2, 3, 8], [])
  | 2 => some ([0, 1, 2, 3, 8], [])
  | 3 => some ([0, 1, 2, 3, 8], [])
  | 4 => some ([0, 1, 2, 3, 8, 9], [])
  | 5 => some ([0, 1, 2, 3, 8, 9], [])
  | 6 => some ([0, 1, 2, 3, 8, 9], [])
  | _ => none
def f52_C (R_f44 : f44_R) : Fns := (orC 44 (f44_cOf R_f44) noC)
theorem f52_Cok (R_f44 : f44_R) (hR_f44 : AnsOk Try.prog 44 (f44_cOf R_f44)) : CsOk Try.prog (f52_C R_f44) := (orC_ok hR_f44 noC_ok)
def f52_cx (R_f44 : f44_R) (hR_f44 : AnsOk Try.prog 44 (f44_cOf R_f44)) : Cx := mkCx (tabOf rows) (f52_C R_f44) md (cmpIn cmps) f52_plan (f52_Cok R_f44 hR_f44)
def f52_S1 (v : Nat × Int × Int × Int × (List CV)) : St := ⟨[(.osl [1000] (some 2) 0 v.1), (.v (CV.int .i64 v.2.1)), (.v (CV.int .i64 v.2.2.1)), (.fn 44 []), .undef, .undef, .undef, .undef, (.v (CV.int .i64 v.2.2.2.1)), .undef, .undef, .undef, .undef, .undef, .undef, .undef, .undef, .undef, .undef, .undef, .undef, .undef, .undef, .undef, .undef, .undef, .undef, .undef, .undef, .undef, .undef, .undef, .undef, .undef, .undef, .undef, .undef, .undef, .undef, .undef, .undef, .undef, .undef, .undef, .undef, .undef, .undef, .undef, .undef, .undef, .undef, .undef, .undef], [([1000], (.row false (some 2) v.2.2.2.2))]⟩
def f52_S2 (v : Nat × Int × Int × Int × Int × (List CV)) : St := ⟨[(.osl [1000] (some 2) 0 v.1), (.v (CV.int .i64 v.2.1)), (.v (CV.int .i64 v.2.2.1)), (.fn 44 []), .undef, .undef, .undef, .undef, (.v (CV.int .i64 v.2.2.2.1)), (.v (CV.int .i64 v.2.2.2.2.1)), .undef, .undef, .undef, .undef, .undef, .undef, .undef, .undef, .undef, .undef, .undef, .undef, .undef, .undef, .undef, .undef, .undef, .undef, .undef, .undef, .undef, .undef, .undef, .undef, .undef, .undef, .undef, .undef, .undef, .undef, .undef, .undef, .undef, .undef, .undef, .undef, .undef, .undef, .undef, .undef, .undef, .undef, .undef], [([1000], (.row false (some 2) v.2.2.2.2.2))]⟩
def f52_T2 {X : Type} (R_f44 : f44_R) (k : Nat) (K : (List CV) → Option X) (rec1 : Nat × Int × Int × Int × (List CV) → Option X)  (rec2 : Nat × Int × Int × Int × Int × (List CV) → Option X) (v8_22 : Nat × Int × Int × Int × Int × (List CV)) : Option X :=
(bif (decide (v8_22.2.2.2.2.1 > v8_22.2.1)) then
grd (decide (0 ≤ v8_22.2.2.2.2.1)) <|
grd (decide (v8_22.2.2.2.2.1 < (Nat.cast (v8_22.1) : Int))) <|
Option.bind (v8_22.2.2.2.2.2)[(0 + (Int.toNat v8_22.2.2.2.2.1))]? fun e37 =>
grd (decide (0 ≤ (IntKind.wrap .i64 (v8_22.2.2.2.2.1 - 1)))) <|
grd (decide ((IntKind.wrap .i64 (v8_22.2.2.2.2.1 - 1)) < (Nat.cast (v8_22.1) : Int))) <|
Option.bind (v8_22.2.2.2.2.2)[(0 + (Int.toNat (IntKind.wrap .i64 (v8_22.2.2.2.2.1 - 1))))]? fun e38 =>
R_f44 _ (fun u39 =>
(bif (decide (u39 < 0)) then
grd (decide (0 ≤ (IntKind.wrap .i64 (v8_22.2.2.2.2.1 - 1)))) <|
grd (decide ((IntKind.wrap .i64 (v8_22.2.2.2.2.1 - 1)) < (Nat.cast (v8_22.1) : Int))) <|
Option.bind (v8_22.2.2.2.2.2)[(0 + (Int.toNat (IntKind.wrap .i64 (v8_22.2.2.2.2.1 - 1))))]? fun e42 =>
grd (decide (0 ≤ v8_22.2.2.2.2.1)) <|
grd (decide (v8_22.2.2.2.2.1 < (Nat.cast (v8_22.1) : Int))) <|
Option.bind (v8_22.2.2.2.2.2)[(0 + (Int.toNat v8_22.2.2.2.2.1))]? fun e43 =>
grd (decide (0 ≤ v8_22.2.2.2.2.1)) <|
grd (decide (v8_22.2.2.2.2.1 < (Nat.cast (v8_22.1) : Int))) <|
grd (Nat.beq (CV.ncells e42) 2 && CV.isAgg e42) <|
grd (decide ((0 + (Int.toNat v8_22.2.2.2.2.1)) < (List.length v8_22.2.2.2.2.2))) <|
grd (decide (0 ≤ (IntKind.wrap .i64 (v8_22.2.2.2.2.1 - 1)))) <|
grd (decide ((IntKind.wrap .i64 (v8_22.2.2.2.2.1 - 1)) < (Nat.cast (v8_22.1) : Int))) <|
grd (Nat.beq (CV.ncells e43) 2 && CV.isAgg e43) <|
grd (decide ((0 + (Int.toNat (IntKind.wrap .i64 (v8_22.2.2.2.2.1 - 1)))) < (List.length (List.set v8_22.2.2.2.2.2 (0 + (Int.toNat v8_22.2.2.2.2.1)) e42)))) <|
rec2 (v8_22.1, v8_22.2.1, v8_22.2.2.1, v8_22.2.2.2.1, (IntKind.wrap .i64 (v8_22.2.2.2.2.1 - 1)), (List.set (List.set v8_22.2.2.2.2.2 (0 + (Int.toNat v8_22.2.2.2.2.1)) e42) (0 + (Int.toNat (IntKind.wrap .i64 (v8_22.2.2.2.2.1 - 1)))) e43))
else
rec1 (v8_22.1, v8_22.2.1, v8_22.2.2.1, (IntKind.wrap .i64 (v8_22.2.2.2.1 + 1)), v8_22.2.2.2.2.2))) (e37) (e38)
else
rec1 (v8_22.1, v8_22.2.1, v8_22.2.2.1, (IntKind.wrap .i64 (v8_22.2.2.2.1 + 1)), v8_22.2.2.2.2.2))
def f52_L2 {X : Type} (R_f44 : f44_R) (k : Nat) (K : (List CV) → Option X) (rec1 : Nat × Int × Int × Int × (List CV) → Option X) (rec2 : Nat × Int × Int × Int × Int × (List CV) → Option X) (v : Nat × Int × Int × Int × Int × (List CV)) : Option X := f52_T2 R_f44 k K rec1  rec2 v
set_option maxRecDepth 100000 in
theorem f52_L2_ev {X : Type} (R_f44 : f44_R) (hR_f44 : AnsOk Try.prog 44 (f44_cOf R_f44)) (k : Nat) (K : Out → Option X) (r1 : St → Option X) (r2 : St → Option X) (v : Nat × Int × Int × Int × Int × (List CV)) : loopB (f52_cx R_f44 hR_f44) k [.r, .b, .o, .r, .l, .b, .r, .b] (Try.f52.body.getD .skip) (retK (f52_cx R_f44 hR_f44) [] Try.f52.results.toList K) [r1] r2 (f52_S2 v) = f52_T2 R_f44 k (fun u => K (f52_out u)) (fun v => r1 (f52_S1 v))  (fun v => r2 (f52_S2 v)) v := by kernel_rfl
theorem f52_L2_it {X : Type} (R_f44 : f44_R) (hR_f44 : AnsOk Try.prog 44 (f44_cOf R_f44)) (k : Nat) (K : Out → Option X) (r1 : St → Option X) : (fun v => iter (loopB (f52_cx R_f44 hR_f44) k [.r, .b, .o, .r, .l, .b, .r, .b] (Try.f52.body.getD .skip) (retK (f52_cx R_f44 hR_f44) [] Try.f52.results.toList K) [r1]) k (f52_S2 v)) = iterV (f52_L2 R_f44 k (fun u => K (f52_out u)) (fun v => r1 (f52_S1 v))) k :=
  iter_map (fun r2 v => (f52_L2_ev R_f44 hR_f44 k K r1 r2 v).trans rfl) k
def f52_T1 {X : Type} (R_f44 : f44_R) (k : Nat) (K : (List CV) → Option X)  (loop2 : Nat × Int × Int × Int × Int × (List CV) → Option X) (rec1 : Nat × Int × Int × Int × (List CV) → Option X) (v2_0 : Nat × Int × Int × Int × (List CV)) : Option X :=
(bif (decide (v2_0.2.2.2.1 < v2_0.2.2.1)) then
loop2 (v2_0.1, v2_0.2.1, v2_0.2.2.1, v2_0.2.2.2.1, v2_0.2.2.2.1, v2_0.2.2.2.2)
else
K (v2_0.2.2.2.2))
def f52_L1 {X : Type} (R_f44 : f44_R) (k : Nat) (K : (List CV) → Option X)  (rec1 : Nat × Int × Int × Int × (List CV) → Option X) (v : Nat × Int × Int × Int × (List CV)) : Option X := f52_T1 R_f44 k K  (iterV (f52_L2 R_f44 k K rec1) k) rec1 v
set_option maxRecDepth 100000 in
theorem f52_L1_ev {X : Type} (R_f44 : f44_R) (hR_f44 : AnsOk Try.prog 44 (f44_cOf R_f44)) (k : Nat) (K : Out → Option X)  (r1 : St → Option X) (v : Nat × Int × Int × Int × (List CV)) : loopB (f52_cx R_f44 hR_f44) k [.r, .b] (Try.f52.body.getD .skip) (retK (f52_cx R_f44 hR_f44) [] Try.f52.results.toList K) [] r1 (f52_S1 v) = f52_T1 R_f44 k (fun u => K (f52_out u))  (fun v => iter (loopB (f52_cx R_f44 hR_f44) k [.r, .b, .o, .r, .l, .b, .r, .b] (Try.f52.body.getD .skip) (retK (f52_cx R_f44 hR_f44) [] Try.f52.results.toList K) [r1]) k (f52_S2 v)) (fun v => r1 (f52_S1 v)) v := by kernel_rfl
theorem f52_L1_it {X : Type} (R_f44 : f44_R) (hR_f44 : AnsOk Try.prog 44 (f44_cOf R_f44)) (k : Nat) (K : Out → Option X)  : (fun v => iter (loopB (f52_cx R_f44 hR_f44) k [.r, .b] (Try.f52.body.getD .skip) (retK (f52_cx R_f44 hR_f44) [] Try.f52.results.toList K) []) k (f52_S1 v)) = iterV (f52_L1 R_f44 k (fun u => K (f52_out u)) ) k :=
  iter_map (fun r1 v => (f52_L1_ev R_f44 hR_f44 k K  r1 v).trans (by rw [f52_L2_it R_f44 hR_f44 k K r1]; rfl)) k
def f52_T {X : Type} (R_f44 : f44_R) (k : Nat) (K : (List CV) → Option X) (loop1 : Nat × Int × Int × Int × (List CV) → Option X) (x0 : Nat) (x1 : Int) (x2 : Int) (x3 : List CV) : Option X :=
loop1 (x0, x1, x2, (IntKind.wrap .i64 (x1 + 1)), x3)
/-- "slices.insertionSortCmpFunc[outpost/api.Opt]" -/
def f52_A (R_f44 : f44_R) (k : Nat) : f52_R := fun X K x0 x1 x2 x3 => f52_T R_f44 k K (iterV (f52_L1 R_f44 k K) k) x0 x1 x2 x3
set_option maxRecDepth 100000 in
theorem f52_ev' {X : Type} (R_f44 : f44_R) (hR_f44 : AnsOk Try.prog 44 (f44_cOf R_f44)) (k : Nat) (K : Out → Option X) (x0 : Nat) (x1 : Int) (x2 : Int) (x3 : List CV) : evFn (f52_cx R_f44 hR_f44) [] k Try.f52.ntmps Try.f52.results.toList (Try.f52.body.getD .skip) [(.osl [1000] (some 2) 0 x0), (.v (CV.int .i64 x1)), (.v (CV.int .i64 x2)), (.fn 44 [])] [([1000], (.row false (some 2) x3))] K = f52_T R_f44 k (fun u => K (f52_out u)) (fun v => iter (loopB (f52_cx R_f44 hR_f44) k [.r, .b] (Try.f52.body.getD .skip) (retK (f52_cx R_f44 hR_f44) [] Try.f52.results.toList K) []) k (f52_S1 v)) x0 x1 x2 x3 := by kernel_rfl
theorem f52_ev {X : Type} (R_f44 : f44_R) (hR_f44 : AnsOk Try.prog 44 (f44_cOf R_f44)) (k : Nat) (K : Out → Option X) (x0 : Nat) (x1 : Int) (x2 : Int) (x3 : List CV) : evFn (f52_cx R_f44 hR_f44) [] k Try.f52.ntmps Try.f52.results.toList (Try.f52.body.getD .skip) [(.osl [1000] (some 2) 0 x0), (.v (CV.int .i64 x1)), (.v (CV.int .i64 x2)), (.fn 44 [])] [([1000], (.row false (some 2) x3))] K = f52_A R_f44 k X (fun u => K (f52_out u)) x0 x1 x2 x3 := (f52_ev' R_f44 hR_f44 k K x0 x1 x2 x3).trans (by rw [f52_L1_it R_f44 hR_f44 k K]; rfl)
theorem f52_okA (R_f44 : f44_R) (hR_f44 : AnsOk Try.prog 44 (f44_cOf R_f44)) (k : Nat) : AnsOk Try.prog 52 (f52_cOf (f52_A R_f44 k)) := by
  intro X xs ns K x h
  unfold f52_cOf at h ⊢
  split at h
  · exact ans_main S (f52_Cok R_f44 hR_f44) Try.func52 (ent_of Try.func52 (by kernel_rfl) rfl) rfl (fun X K => f52_ev R_f44 hR_f44 k K _ _ _ _) h
  · cases h
/-- "slices.insertionSortCmpFunc[outpost/api.Opt]" -/
def f52 {X : Type} (k : Nat) (K : (List CV) → Option X) (x0 : Nat) (x1 : Int) (x2 : Int) (x3 : List CV) : Option X := f52_A (fun X => @f44 X k) k X K x0 x1 x2 x3
theorem f52_ok (k : Nat) : AnsOk Try.prog 52 (f52_cOf (fun X => @f52 X k)) := f52_okA (fun X => @f44 X k) (f44_ok k) k
abbrev f56_R : Type 1 := (X : Type) → ((List CV) → Option X) → Nat → Int → Int → Int → (List CV) → Option X
def f56_out (u : (List CV)) : Out := ⟨(.tup []), [([1000], (.row false (some 2) u))]⟩
def f56_cOf (R : f56_R) : FnC := fun X xs ns K => match xs, ns with
  | [(.osl [1000] (some 2) 0 x0), (.v (CV.int .i64 x1)), (.v (CV.int .i64 x2)), (.v (CV.int .i64 x3)), (.fn 44 [])], [([1000], (.row false (some 2) x4))] => R X (fun u => K (f56_out u)) x0 x1 x2 x3 x4
  | _, _ => none
def f56_plan : Nat → Option (List Nat × List Wk)
  | 0 => some ([0, 1, 2, 3], [])
  | 1 => some ([0, 1, 2, 3, 10], [])
  | 2 => some ([0, 1, 2, 3, 10], [])
  | 3 => some ([0, 1, 2, 3, 10], [])
  | _ => none
def f56_C : Fns := noC
theorem f56_Cok : CsOk Try.prog (f56_C) := noC_ok
def f56_cx : Cx := mkCx (tabOf rows) (f56_C) md (cmpIn cmps) f56_plan (f56_Cok)
def f56_S1 (v : Nat × Int × Int × Int × Int × (List CV)) : St := ⟨[(.osl [1000] (some 2) 0 v.1), (.v (CV.int .i64 v.2.1)), (.v (CV.int .i64 v.2.2.1)), (.v (CV.int .i64 v.2.2.2.1)), .undef, .undef, .undef, .undef, .undef, .undef, (.v (CV.int .i64 v.2.2.2.2.1)), .undef, .undef, .undef, .undef, .undef, .undef, .undef, .undef, .undef, .undef, .undef, .undef, .undef, .undef, .undef, .undef, .undef, .undef, .undef, .undef, .undef, .undef, .undef, .undef, .undef, .undef, .undef], [([1000], (.row false (some 2) v.2.2.2.2.2))]⟩
def f56_T1 {X : Type} (k : Nat) (K : (List CV) → Option X)   (rec1 : Nat × Int × Int × Int × Int × (List CV) → Option X) (v2_0 : Nat × Int × Int × Int × Int × (List CV)) : Option X :=
(bif (decide (v2_0.2.2.2.2.1 < v2_0.2.2.2.1)) then
grd (decide (0 ≤ (IntKind.wrap .i64 (v2_0.2.2.1 + v2_0.2.2.2.2.1)))) <|
grd (decide ((IntKind.wrap .i64 (v2_0.2.2.1 + v2_0.2.2.2.2.1)) < (Nat.cast (v2_0.1) : Int))) <|
Option.bind (v2_0.2.2.2.2.2)[(0 + (Int.toNat (IntKind.wrap .i64 (v2_0.2.2.1 + v2_0.2.2.2.2.1))))]? fun e8 =>
grd (decide (0 ≤ (IntKind.wrap .i64 (v2_0.2.1 + v2_0.2.2.2.2.1)))) <|
grd (decide ((IntKind.wrap .i64 (v2_0.2.1 + v2_0.2.2.2.2.1)) < (Nat.cast (v2_0.1) : Int))) <|
Option.bind (v2_0.2.2.2.2.2)[(0 + (Int.toNat (IntKind.wrap .i64 (v2_0.2.1 + v2_0.2.2.2.2.1))))]? fun e9 =>
grd (decide (0 ≤ (IntKind.wrap .i64 (v2_0.2.1 + v2_0.2.2.2.2.1)))) <|
grd (decide ((IntKind.wrap .i64 (v2_0.2.1 + v2_0.2.2.2.2.1)) < (Nat.cast (v2_0.1) : Int))) <|
grd (Nat.beq (CV.ncells e8) 2 && CV.isAgg e8) <|
grd (decide ((0 + (Int.toNat (IntKind.wrap .i64 (v2_0.2.1 + v2_0.2.2.2.2.1)))) < (List.length v2_0.2.2.2.2.2))) <|
grd (decide (0 ≤ (IntKind.wrap .i64 (v2_0.2.2.1 + v2_0.2.2.2.2.1)))) <|
grd (decide ((IntKind.wrap .i64 (v2_0.2.2.1 + v2_0.2.2.2.2.1)) < (Nat.cast (v2_0.1) : Int))) <|
grd (Nat.beq (CV.ncells e9) 2 && CV.isAgg e9) <|
grd (decide ((0 + (Int.toNat (IntKind.wrap .i64 (v2_0.2.2.1 + v2_0.2.2.2.2.1)))) < (List.length (List.set v2_0.2.2.2.2.2 (0 + (Int.toNat (IntKind.wrap .i64 (v2_0.2.1 + v2_0.2.2.2.2.1)))) e8)))) <|
rec1 (v2_0.1, v2_0.2.1, v2_0.2.2.1, v2_0.2.2.2.1, (IntKind.wrap .i64 (v2_0.2.2.2.2.1 + 1)), (List.set (List.set v2_0.2.2.2.2.2 (0 + (Int.toNat (IntKind.wrap .i64 (v2_0.2.1 + v2_0.2.2.2.2.1)))) e8) (0 + (Int.toNat (IntKind.wrap .i64 (v2_0.2.2.1 + v2_0.2.2.2.2.1)))) e9))
else
K (v2_0.2.2.2.2.2))
def f56_L1 {X : Type} (k : Nat) (K : (List CV) → Option X)  (rec1 : Nat × Int × Int × Int × Int × (List CV) → Option X) (v : Nat × Int × Int × Int × Int × (List CV)) : Option X := f56_T1 k K   rec1 v
set_option maxRecDepth 100000 in
theorem f56_L1_ev {X : Type} (k : Nat) (K : Out → Option X)  (r1 : St → Option X) (v : Nat × Int × Int × Int × Int × (List CV)) : loopB (f56_cx) k [.r, .b] (Try.f56.body.getD .skip) (retK (f56_cx) [] Try.f56.results.toList K) [] r1 (f56_S1 v) = f56_T1 k (fun u => K (f56_out u))   (fun v => r1 (f56_S1 v)) v := by kernel_rfl
theorem f56_L1_it {X : Type} (k : Nat) (K : Out → Option X)  : (fun v => iter (loopB (f56_cx) k [.r, .b] (Try.f56.body.getD .skip) (retK (f56_cx) [] Try.f56.results.toList K) []) k (f56_S1 v)) = iterV (f56_L1 k (fun u => K (f56_out u)) ) k :=
  iter_map (fun r1 v => (f56_L1_ev k K  r1 v).trans rfl) k
def f56_T {X : Type} (k : Nat) (K : (List CV) → Option X) (loop1 : Nat × Int × Int × Int × Int × (List CV) → Option X) (x0 : Nat) (x1 : Int) (x2 : Int) (x3 : Int) (x4 : List CV) : Option X :=
loop1 (x0, x1, x2, x3, 0, x4)
/-- "slices.swapRangeCmpFunc[outpost/api.Opt]" -/
def f56_A (k : Nat) : f56_R := fun X K x0 x1 x2 x3 x4 => f56_T k K (iterV (f56_L1 k K) k) x0 x1 x2 x3 x4
set_option maxRecDepth 100000 in
theorem f56_ev' {X : Type} (k : Nat) (K : Out → Option X) (x0 : Nat) (x1 : Int) (x2 : Int) (x3 : Int) (x4 : List CV) : evFn (f56_cx) [] k Try.f56.ntmps Try.f56.results.toList (Try.f56.body.getD .skip) [(.osl [1000] (some 2) 0 x0), (.v (CV.int .i64 x1)), (.v (CV.int .i64 x2)), (.v (CV.int .i64 x3)), (.fn 44 [])] [([1000], (.row false (some 2) x4))] K = f56_T k (fun u => K (f56_out u)) (fun v => iter (loopB (f56_cx) k [.r, .b] (Try.f56.body.getD .skip) (retK (f56_cx) [] Try.f56.results.toList K) []) k (f56_S1 v)) x0 x1 x2 x3 x4 := by kernel_rfl
theorem f56_ev {X : Type} (k : Nat) (K : Out → Option X) (x0 : Nat) (x1 : Int) (x2 : Int) (x3 : Int) (x4 : List CV) : evFn (f56_cx) [] k Try.f56.ntmps Try.f56.results.toList (Try.f56.body.getD .skip) [(.osl [1000] (some 2) 0 x0), (.v (CV.int .i64 x1)), (.v (CV.int .i64 x2)), (.v (CV.int .i64 x3)), (.fn 44 [])] [([1000], (.row false (some 2) x4))] K = f56_A k X (fun u => K (f56_out u)) x0 x1 x2 x3 x4 := (f56_ev' k K x0 x1 x2 x3 x4).trans (by rw [f56_L1_it k K]; rfl)
theorem f56_okA (k : Nat) : AnsOk Try.prog 56 (f56_cOf (f56_A k)) := by
  intro X xs ns K x h
  unfold f56_cOf at h ⊢
  split at h
  · exact ans_main S (f56_Cok) Try.func56 (ent_of Try.func56 (by kernel_rfl) rfl) rfl (fun X K => f56_ev k K _ _ _ _ _) h
  · cases h
/-- "slices.swapRangeCmpFunc[outpost/api.Opt]" -/
def f56 {X : Type} (k : Nat) (K : (List CV) → Option X) (x0 : Nat) (x1 : Int) (x2 : Int) (x3 : Int) (x4 : List CV) : Option X := f56_A k X K x0 x1 x2 x3 x4
theorem f56_ok (k : Nat) : AnsOk Try.prog 56 (f56_cOf (fun X => @f56 X k)) := f56_okA k
abbrev f55_R : Type 1 := (X : Type) → ((List CV) → Option X) → Nat → Int → Int → Int → (List CV) → Option X
def f55_out (u : (List CV)) : Out := ⟨(.tup []), [([1000], (.row false (some 2) u))]⟩
def f55_cOf (R : f55_R) : FnC := fun X xs ns K => match xs, ns with
  | [(.osl [1000] (some 2) 0 x0), (.v (CV.int .i64 x1)), (.v (CV.int .i64 x2)), (.v (CV.int .i64 x3)), (.fn 44 [])], [([1000], (.row false (some 2) x4))] => R X (fun u => K (f55_out u)) x0 x1 x2 x3 x4
  | _, _ => none
def f55_plan : Nat → Option (List Nat × List Wk)
  | 0 => some ([0, 1, 2, 3, 4], [])
  | 1 => some ([0, 2, 3, 4, 10], [])
  | 2 => some ([0, 2, 4, 10, 11], [])
  | 3 => some ([0, 2, 4, 10, 11], [])
  | 4 => some ([0, 2, 4, 10, 11], [])
  | 5 => some ([0, 2, 4, 10, 11], [])
  | 6 => some ([0, 2, 4, 10, 11], [])
  | 7 => some ([0, 2, 4, 10, 11], [])
  | 8 => some ([0, 2, 4, 10], [])
  | _ => none
def f55_C (R_f56 : f56_R) : Fns := (orC 56 (f56_cOf R_f56) noC)
theorem f55_Cok (R_f56 : f56_R) (hR_f56 : AnsOk Try.prog 56 (f56_cOf R_f56)) : CsOk Try.prog (f55_C R_f56) := (orC_ok hR_f56 noC_ok)
def f55_cx (R_f56 : f56_R) (hR_f56 : AnsOk Try.prog 56 (f56_cOf R_f56)) : Cx := mkCx (tabOf rows) (f55_C R_f56) md (cmpIn cmps) f55_plan (f55_Cok R_f56 hR_f56)
def f55_S1 (v : Nat × Int × Int × Int × (List CV)) : St := ⟨[(.osl [1000] (some 2) 0 v.1), .undef, (.v (CV.int .i64 v.2.1)), .undef, (.fn 44 []), .undef, .undef, .undef, .undef, .undef, (.v (CV.int .i64 v.2.2.1)), (.v (CV.int .i64 v.2.2.2.1)), .undef, .undef, .undef, .undef, .undef, .undef, .undef, .undef, .undef, .undef, .undef, .undef, .undef, .undef, .undef, .undef, .undef, .undef, .undef, .undef, .undef, .undef, .undef, .undef, .undef, .undef, .undef, .undef, .undef, .undef, .undef, .undef, .undef, .undef, .undef, .undef, .undef, .undef, .undef, .undef, .undef, .undef, .undef, .undef, .undef, .undef], [([1000], (.row false (some 2) v.2.2.2.2))]⟩
def f55_T1 {X : Type} (R_f56 : f56_R) (k : Nat) (K : (List CV) → Option X)   (rec1 : Nat × Int × Int × Int × (List CV) → Option X) (v4_0 : Nat × Int × Int × Int × (List CV)) : Option X :=
(bif (v4_0.2.2.1 != v4_0.2.2.2.1) then
(bif (decide (v4_0.2.2.1 > v4_0.2.2.2.1)) then
R_f56 _ (fun u4 =>
rec1 (v4_0.1, v4_0.2.1, (IntKind.wrap .i64 (v4_0.2.2.1 - v4_0.2.2.2.1)), v4_0.2.2.2.1, u4)) (v4_0.1) ((IntKind.wrap .i64 (v4_0.2.1 - v4_0.2.2.1))) (v4_0.2.1) (v4_0.2.2.2.1) (v4_0.2.2.2.2)
else
R_f56 _ (fun u5 =>
rec1 (v4_0.1, v4_0.2.1, v4_0.2.2.1, (IntKind.wrap .i64 (v4_0.2.2.2.1 - v4_0.2.2.1)), u5)) (v4_0.1) ((IntKind.wrap .i64 (v4_0.2.1 - v4_0.2.2.1))) ((IntKind.wrap .i64 ((IntKind.wrap .i64 (v4_0.2.1 + v4_0.2.2.2.1)) - v4_0.2.2.1))) (v4_0.2.2.1) (v4_0.2.2.2.2))
else
R_f56 _ (fun u6 =>
K (u6)) (v4_0.1) ((IntKind.wrap .i64 (v4_0.2.1 - v4_0.2.2.1))) (v4_0.2.1) (v4_0.2.2.1) (v4_0.2.2.2.2))
def f55_L1 {X : Type} (R_f56 : f56_R) (k : Nat) (K : (List CV) → Option X)  (rec1 : Nat × Int × Int × Int × (List CV) → Option X) (v : Nat × Int × Int × Int × (List CV)) : Option X := f55_T1 R_f56 k K   rec1 v
set_option maxRecDepth 100000 in
theorem f55_L1_ev {X : Type} (R_f56 : f56_R) (hR_f56 : AnsOk Try.prog 56 (f56_cOf R_f56)) (k : Nat) (K : Out → Option X)  (r1 : St → Option X) (v : Nat × Int × Int × Int × (List CV)) : loopB (f55_cx R_f56 hR_f56) k [.r, .r, .l, .b] (Try.f55.body.getD .skip) (retK (f55_cx R_f56 hR_f56) [] Try.f55.results.toList K) [] r1 (f55_S1 v) = f55_T1 R_f56 k (fun u => K (f55_out u))   (fun v => r1 (f55_S1 v)) v := by kernel_rfl
theorem f55_L1_it {X : Type} (R_f56 : f56_R) (hR_f56 : AnsOk Try.prog 56 (f56_cOf R_f56)) (k : Nat) (K : Out → Option X)  : (fun v => iter (loopB (f55_cx R_f56 hR_f56) k [.r, .r, .l, .b] (Try.f55.body.getD .skip) (retK (f55_cx R_f56 hR_f56) [] Try.f55.results.toList K) []) k (f55_S1 v)) = iterV (f55_L1 R_f56 k (fun u => K (f55_out u)) ) k :=
  iter_map (fun r1 v => (f55_L1_ev R_f56 hR_f56 k K  r1 v).trans rfl) k
def f55_T {X : Type} (R_f56 : f56_R) (k : Nat) (K : (List CV) → Option X) (loop1 : Nat × Int × Int × Int × (List CV) → Option X) (x0 : Nat) (x1 : Int) (x2 : Int) (x3 : Int) (x4 : List CV) : Option X :=
loop1 (x0, x2, (IntKind.wrap .i64 (x2 - x1)), (IntKind.wrap .i64 (x3 - x2)), x4)
/-- "slices.rotateCmpFunc[outpost/api.Opt]" -/
def f55_A (R_f56 : f56_R) (k : Nat) : f55_R := fun X K x0 x1 x2 x3 x4 => f55_T R_f56 k K (iterV (f55_L1 R_f56 k K) k) x0 x1 x2 x3 x4
set_option maxRecDepth 100000 in
theorem f55_ev' {X : Type} (R_f56 : f56_R) (hR_f56 : AnsOk Try.prog 56 (f56_cOf R_f56)) (k : Nat) (K : Out → Option X) (x0 : Nat) (x1 : Int) (x2 : Int) (x3 : Int) (x4 : List CV) : evFn (f55_cx R_f56 hR_f56) [] k Try.f55.ntmps Try.f55.results.toList (Try.f55.body.getD .skip) [(.osl [1000] (some 2) 0 x0), (.v (CV.int .i64 x1)), (.v (CV.int .i64 x2)), (.v (CV.int .i64 x3)), (.fn 44 [])] [([1000], (.row false (some 2) x4))] K = f55_T R_f56 k (fun u => K (f55_out u)) (fun v => iter (loopB (f55_cx R_f56 hR_f56) k [.r, .r, .l, .b] (Try.f55.body.getD .skip) (retK (f55_cx R_f56 hR_f56) [] Try.f55.results.toList K) []) k (f55_S1 v)) x0 x1 x2 x3 x4 := by kernel_rfl
theorem f55_ev {X : Type} (R_f56 : f56_R) (hR_f56 : AnsOk Try.prog 56 (f56_cOf R_f56)) (k : Nat) (K : Out → Option X) (x0 : Nat) (x1 : Int) (x2 : Int) (x3 : Int) (x4 : List CV) : evFn (f55_cx R_f56 hR_f56) [] k Try.f55.ntmps Try.f55.results.toList (Try.f55.body.getD .skip) [(.osl [1000] (some 2) 0 x0), (.v (CV.int .i64 x1)), (.v (CV.int .i64 x2)), (.v (CV.int .i64 x3)), (.fn 44 [])] [([1000], (.row false (some 2) x4))] K = f55_A R_f56 k X (fun u => K (f55_out u)) x0 x1 x2 x3 x4 := (f55_ev' R_f56 hR_f56 k K x0 x1 x2 x3 x4).trans (by rw [f55_L1_it R_f56 hR_f56 k K]; rfl)
theorem f55_okA (R_f56 : f56_R) (hR_f56 : AnsOk Try.prog 56 (f56_cOf R_f56)) (k : Nat) : AnsOk Try.prog 55 (f55_cOf (f55_A R_f56 k)) := by
  intro X xs ns K x h
  unfold f55_cOf at h ⊢
  split at h
  · exact ans_main S (f55_Cok R_f56 hR_f56) Try.func55 (ent_of Try.func55 (by kernel_rfl) rfl) rfl (fun X K => f55_ev R_f56 hR_f56 k K _ _ _ _ _) h
  · cases h
/-- "slices.rotateCmpFunc[outpost/api.Opt]" -/
def f55 {X : Type} (k : Nat) (K : (List CV) → Option X) (x0 : Nat) (x1 : Int) (x2 : Int) (x3 : Int) (x4 : List CV) : Option X := f55_A (fun X => @f56 X k) k X K x0 x1 x2 x3 x4
theorem f55_ok (k : Nat) : AnsOk Try.prog 55 (f55_cOf (fun X => @f55 X k)) := f55_okA (fun X => @f56 X k) (f56_ok k) k
abbrev f53_R : Type 1 := (X : Type) → ((List CV) → Option X) → Nat → Int → Int → Int → (List CV) → Option X
def f53_out (u : (List CV)) : Out := ⟨(.tup []), [([1000], (.row false (some 2) u))]⟩
def f53_cOf (R : f53_R) : FnC := fun X xs ns K => match xs, ns with
  | [(.osl [1000] (some 2) 0 x0), (.v (CV.int .i64 x1)), (.v (CV.int .i64 x2)), (.v (CV.int .i64 x3)), (.fn 44 [])], [([1000], (.row false (some 2) x4))] => R X (fun u => K (f53_out u)) x0 x1 x2 x3 x4
  | _, _ => none
def f53_plan : Nat → Option (List Nat × List Wk)
  | 0 => some ([0, 1, 2, 3, 4], [])
  | 1 => some ([0, 1, 2, 3, 4], [])
  | 2 => some ([0, 1, 3, 4, 10], [])
  | 3 => some ([0, 1, 4, 10, 11], [])
  | 4 => some ([0, 1, 4, 10, 11], [])
  | 5 => some ([0, 1, 4, 10, 11, 12], [])
  | 6 => some ([0, 1, 4, 11, 12], [])
  | 7 => some ([0, 1, 4, 10, 12], [])
  | 8 => some ([0, 1, 10], [])
  | 9 => some ([0, 10, 13], [])
  | 10 => some ([0, 10, 13], [])
  | 11 => some ([0, 10, 13], [])
  | 12 => some ([0, 1, 2, 3, 4], [])
  | 13 => some ([0, 1, 2, 4], [])
  | 14 => some ([0, 2, 4, 14], [])
  | 15 => some ([0, 2, 4, 14, 15], [])
  | 16 => some ([0, 2, 4, 14, 15], [])
  | 17 => some ([0, 2, 4, 14, 15, 16], [])
  | 18 => some ([0, 2, 4, 15, 16], [])
  | 19 => some ([0, 2, 4, 14, 16], [])
  | 20 => some ([0, 2, 14], [])
  | 21 => some ([0, 14, 17], [])
  | 22 => some ([0, 14, 17], [])
  | 23 => some ([0, 14, 17], [])
  | 24 => some ([0, 1, 2, 3, 4], [])
  | 25 => some ([0, 1, 2, 3, 4, 18], [])
  | 26 => some ([0, 1, 2, 3, 4, 18, 19], [])
  | 27 => some ([0, 1, 2, 3, 4, 18, 19], [])
  | 28 => some ([0, 1, 2, 3, 4, 18, 19], [])
  | 29 => some ([0, 1, 2, 3, 4, 18, 19, 20], [])
  | 30 => some ([0, 1, 2, 3, 4, 18, 19], [])
  | 31 => some ([0, 1, 2, 3, 4, 18, 19, 20], [])
  | 32 => some ([0, 1, 2, 3, 4, 18, 19, 20, 21], [])
  | 33 => some ([0, 1, 2, 3, 4, 18, 19, 20, 21, 22], [])
  | 34 => some ([0, 1, 2, 3, 4, 18, 19, 20, 21, 22], [])
  | 35 => some ([0, 1, 2, 3, 4, 18, 19, 20, 21, 22, 23], [])
  | 36 => some ([0, 1, 2, 3, 4, 18, 19, 21, 22, 23], [])
  | 37 => some ([0, 1, 2, 3, 4, 18, 19, 20, 22, 23], [])
  | 38 => some ([0, 1, 2, 3, 4, 18, 19, 20], [])
  | 39 => some ([0, 1, 2, 3, 4, 18, 20, 24], [])
  | 40 => some ([0, 1, 2, 3, 4, 18, 20, 24], [])
  | 41 => some ([0, 1, 3, 4, 18, 20, 24], [])
  | 42 => some ([0, 1, 3, 4, 18, 20, 24], [])
  | 43 => some ([0, 3, 4, 18, 24], [])
  | 44 => some ([0, 3, 4, 18, 24], [])
  | _ => none
def f53_C (R_f44 : f44_R) (R_f55 : f55_R) (R_f53 : f53_R) : Fns := (orC 44 (f44_cOf R_f44) (orC 53 (f53_cOf R_f53) (orC 55 (f55_cOf R_f55) noC)))
theorem f53_Cok (R_f44 : f44_R) (R_f55 : f55_R) (R_f53 : f53_R) (hR_f44 : AnsOk Try.prog 44 (f44_cOf R_f44)) (hR_f55 : AnsOk Try.prog 55 (f55_cOf R_f55)) (hR_f53 : AnsOk Try.prog 53 (f53_cOf R_f53)) : CsOk Try.prog (f53_C R_f44 R_f55 R_f53) := (orC_ok hR_f44 (orC_ok hR_f53 (orC_ok hR_f55 noC_ok)))
def f53_cx (R_f44 : f44_R) (R_f55 : f55_R) (R_f53 : f53_R) (hR_f44 : AnsOk Try.prog 44 (f44_cOf R_f44)) (hR_f55 : AnsOk Try.prog 55 (f55_cOf R_f55)) (hR_f53 : AnsOk Try.prog 53 (f53_cOf R_f53)) : Cx := mkCx (tabOf rows) (f53_C R_f44 R_f55 R_f53) md (cmpIn cmps) f53_plan (f53_Cok R_f44 R_f55 R_f53 hR_f44 hR_f55 hR_f53)
def f53_S1 (v : Nat × Int × Int × Int × (List CV)) : St := ⟨[(.osl [1000] (some 2) 0 v.1), (.v (CV.int .i64 v.2.1)), .undef, .undef, (.fn 44 []), .undef, .undef, .undef, .undef, .undef, (.v (CV.int .i64 v.2.2.1)), (.v (CV.int .i64 v.2.2.2.1)), .undef, .undef, .undef, .undef, .undef, .undef, .undef, .undef, .undef, .undef, .undef, .undef, .undef, .undef, .undef, .undef, .undef, .undef, .undef, .undef, .undef, .undef, .undef, .undef, .undef, .undef, .undef, .undef, .undef, .undef, .undef, .undef, .undef, .undef, .undef, .undef, .undef, .undef, .undef, .undef, .undef, .undef, .undef, .undef, .undef, .undef, .undef, .undef, .undef, .undef, .undef, .undef, .undef, .undef, .undef, .undef, .undef, .undef, .undef, .undef, .undef, .undef, .undef, .undef, .undef, .undef, .undef, .undef, .undef, .undef, .undef, .undef, .undef, .undef, .undef, .undef, .undef, .undef, .undef, .undef, .undef, .undef, .undef, .undef, .undef, .undef, .undef, .undef, .undef, .undef, .undef, .undef, .undef, .undef, .undef, .undef, .undef, .undef, .undef, .undef, .undef, .undef, .undef, .undef, .undef, .undef, .undef, .undef, .undef, .undef, .undef, .undef, .undef, .undef, .undef, .undef, .undef, .undef, .undef, .undef, .undef, .undef, .undef, .undef, .undef, .undef, .undef, .undef, .undef, .undef, .undef, .undef, .undef, .undef, .undef, .undef, .undef, .undef, .undef, .undef, .undef, .undef, .undef, .undef, .undef, .undef, .undef, .undef, .undef, .undef, .undef, .undef, .undef, .undef, .undef, .undef, .undef, .undef, .undef, .undef, .undef, .undef, .undef, .undef, .undef, .undef, .undef, .undef, .undef, .undef, .undef, .undef, .undef, .undef, .undef, .undef, .undef, .undef, .undef, .undef, .undef, .undef, .undef, .undef, .undef, .undef, .undef, .undef, .undef, .undef, .undef, .undef, .undef, .undef, .undef, .undef, .undef, .undef, .undef, .undef, .undef, .undef, .undef, .undef, .undef, .undef, .undef, .undef], [([1000], (.row false (some 2) v.2.2.2.2))]⟩
def f53_S2 (v : Nat × Int × Int × (List CV)) : St := ⟨[(.osl [1000] (some 2) 0 v.1), .undef, .undef, .undef, .undef, .undef, .undef, .undef, .undef, .undef, (.v (CV.int .i64 v.2.1)), .undef, .undef, (.v (CV.int .i64 v.2.2.1)), .undef, .undef, .undef, .undef, .undef, .undef, .undef, .undef, .undef, .undef, .undef, .undef, .undef, .undef, .undef, .undef, .undef, .undef, .undef, .undef, .undef, .undef, .undef, .undef, .undef, .undef, .undef, .undef, .undef, .undef, .undef, .undef, .undef, .undef, .undef, .undef, .undef, .undef, .undef, .undef, .undef, .undef, .undef, .undef, .undef, .undef, .undef, .undef, .undef, .undef, .undef, .undef, .undef, .undef, .undef, .undef, .undef, .undef, .undef, .undef, .undef, .undef, .undef, .undef, .undef, .undef, .undef, .undef, .undef, .undef, .undef, .undef, .undef, .undef, .undef, .undef, .undef, .undef, .undef, .undef, .undef, .undef, .undef, .undef, .undef, .undef, .undef, .undef, .undef, .undef, .undef, .undef, .undef, .undef, .undef, .undef, .undef, .undef, .undef, .undef, .undef, .undef, .undef, .undef, .undef, .undef, .undef, .undef, .undef, .undef, .undef, .undef, .undef, .undef, .undef, .undef, .undef, .undef, .undef, .undef, .undef, .undef, .undef, .undef, .undef, .undef, .undef, .undef, .undef, .undef, .undef, .undef, .undef, .undef, .undef, .undef, .undef, .undef, .undef, .undef, .undef, .undef, .undef, .undef, .undef, .undef, .undef, .undef, .undef, .undef, .undef, .undef, .undef, .undef, .undef, .undef, .undef, .undef, .undef, .undef, .undef, .undef, .undef, .undef, .undef, .undef, .undef, .undef, .undef, .undef, .undef, .undef, .undef, .undef, .undef, .undef, .undef, .undef, .undef, .undef, .undef, .undef, .undef, .undef, .undef, .undef, .undef, .undef, .undef, .undef, .undef, .undef, .undef, .undef, .undef, .undef, .undef, .undef, .undef, .undef, .undef, .undef, .undef, .undef, .undef, .undef], [([1000], (.row false (some 2) v.2.2.2))]⟩
def f53_S3 (v : Nat × Int × Int × Int × (List CV)) : St := ⟨[(.osl [1000] (some 2) 0 v.1), .undef, (.v (CV.int .i64 v.2.1)), .undef, (.fn 44 []), .undef, .undef, .undef, .undef, .undef, .undef, .undef, .undef, .undef, (.v (CV.int .i64 v.2.2.1)), (.v (CV.int .i64 v.2.2.2.1)), .undef, .undef, .undef, .undef, .undef, .undef, .undef, .undef, .undef, .undef, .undef, .undef, .undef, .undef, .undef, .undef, .undef, .undef, .undef, .undef, .undef, .undef, .undef, .undef, .undef, .undef, .undef, .undef, .undef, .undef, .undef, .undef, .undef, .undef, .undef, .undef, .undef, .undef, .undef, .undef, .undef, .undef, .undef, .undef, .undef, .undef, .undef, .undef, .undef, .undef, .undef, .undef, .undef, .undef, .undef, .undef, .undef, .undef, .undef, .undef, .undef, .undef, .undef, .undef, .undef, .undef, .undef, .undef, .undef, .undef, .undef, .undef, .undef, .undef, .undef, .undef, .undef, .undef, .undef, .undef, .undef, .undef, .undef, .undef, .undef, .undef, .undef, .undef, .undef, .undef, .undef, .undef, .undef, .undef, .undef, .undef, .undef, .undef, .undef, .undef, .undef, .undef, .undef, .undef, .undef, .undef, .undef, .undef, .undef, .undef, .undef, .undef, .undef, .undef, .undef, .undef, .undef, .undef, .undef, .undef, .undef, .undef, .undef, .undef, .undef, .undef, .undef, .undef, .undef, .undef, .undef, .undef, .undef, .undef, .undef, .undef, .undef, .undef, .undef, .undef, .undef, .undef, .undef, .undef, .undef, .undef, .undef, .undef, .undef, .undef, .undef, .undef, .undef, .undef, .undef, .undef, .undef, .undef, .undef, .undef, .undef, .undef, .undef, .undef, .undef, .undef, .undef, .undef, .undef, .undef, .undef, .undef, .undef, .undef, .undef, .undef, .undef, .undef, .undef, .undef, .undef, .undef, .undef, .undef, .undef, .undef, .undef, .undef, .undef, .undef, .undef, .undef, .undef, .undef, .undef, .undef, .undef, .undef, .undef, .undef, .undef, .undef, .undef, .undef], [([1000], (.row false (some 2) v.2.2.2.2))]⟩
def f53_S4 (v : Nat × Int × Int × (List CV)) : St := ⟨[(.osl [1000] (some 2) 0 v.1), .undef, .undef, .undef, .undef, .undef, .undef, .undef, .undef, .undef, .undef, .undef, .undef, .undef, (.v (CV.int .i64 v.2.1)), .undef, .undef, (.v (CV.int .i64 v.2.2.1)), .undef, .undef, .undef, .undef, .undef, .undef, .undef, .undef, .undef, .undef, .undef, .undef, .undef, .undef, .undef, .undef, .undef, .undef, .undef, .undef, .undef, .undef, .undef, .undef, .undef, .undef, .undef, .undef, .undef, .undef, .undef, .undef, .undef, .undef, .undef, .undef, .undef, .undef, .undef, .undef, .undef, .undef, .undef, .undef, .undef, .undef, .undef, .undef, .undef, .undef, .undef, .undef, .undef, .undef, .undef, .undef, .undef, .undef, .undef, .undef, .undef, .undef, .undef, .undef, .undef, .undef, .undef, .undef, .undef, .undef, .undef, .undef, .undef, .undef, .undef, .undef, .undef, .undef, .undef, .undef, .undef, .undef, .undef, .undef, .undef, .undef, .undef, .undef, .undef, .undef, .undef, .undef, .undef, .undef, .undef, .undef, .undef, .undef, .undef, .undef, .undef, .undef, .undef, .undef, .undef, .undef, .undef, .undef, .undef, .undef, .undef, .undef, .undef, .undef, .undef, .undef, .undef, .undef, .undef, .undef, .undef, .undef, .undef, .undef, .undef, .undef, .undef, .undef, .undef, .undef, .undef, .undef, .undef, .undef, .undef, .undef, .undef, .undef, .undef, .undef, .undef, .undef, .undef, .undef, .undef, .undef, .undef, .undef, .undef, .undef, .undef, .undef, .undef, .undef, .undef, .undef, .undef, .undef, .undef, .undef, .undef, .undef, .undef, .undef, .undef, .undef, .undef, .undef, .undef, .undef, .undef, .undef, .undef, .undef, .undef, .undef, .undef, .undef, .undef, .undef, .undef, .undef, .undef, .undef, .undef, .undef, .undef, .undef, .undef, .undef, .undef, .undef, .undef, .undef, .undef, .undef, .undef, .undef, .undef, .undef, .undef, .undef], [([1000], (.row false (some 2) v.2.2.2))]⟩
def f53_S5 (v : Nat × Int × Int × Int × Int × Int × Int × Int × Int × (List CV)) : St := ⟨[(.osl [1000] (some 2) 0 v.1), (.v (CV.int .i64 v.2.1)), (.v (CV.int .i64 v.2.2.1)), (.v (CV.int .i64 v.2.2.2.1)), (.fn 44 []), .undef, .undef, .undef, .undef, .undef, .undef, .undef, .undef, .undef, .undef, .undef, .undef, .undef, (.v (CV.int .i64 v.2.2.2.2.1)), (.v (CV.int .i64 v.2.2.2.2.2.1)), (.v (CV.int .i64 v.2.2.2.2.2.2.1)), (.v (CV.int .i64 v.2.2.2.2.2.2.2.1)), (.v (CV.int .i64 v.2.2.2.2.2.2.2.2.1)), .undef, .undef, .undef, .undef, .undef, .undef, .undef, .undef, .undef, .undef, .undef, .undef, .undef, .undef, .undef, .undef, .undef, .undef, .undef, .undef, .undef, .undef, .undef, .undef, .undef, .undef, .undef, .undef, .undef, .undef, .undef, .undef, .undef, .undef, .undef, .undef, .undef, .undef, .undef, .undef, .undef, .undef, .undef, .undef, .undef, .undef, .undef, .undef, .undef, .undef, .undef, .undef, .undef, .undef, .undef, .undef, .undef, .undef, .undef, .undef, .undef, .undef, .undef, .undef, .undef, .undef, .undef, .undef, .undef, .undef, .undef, .undef, .undef, .undef, .undef, .undef, .undef, .undef, .undef, .undef, .undef, .undef, .undef, .undef, .undef, .undef, .undef, .undef, .undef, .undef, .undef, .undef, .undef, .undef, .undef, .undef, .undef, .undef, .undef, .undef, .undef, .undef, .undef, .undef, .undef, .undef, .undef, .undef, .undef, .undef, .undef, .undef, .undef, .undef, .undef, .undef, .undef, .undef, .undef, .undef, .undef, .undef, .undef, .undef, .undef, .undef, .undef, .undef, .undef, .undef, .undef, .undef, .undef, .undef, .undef, .undef, .undef, .undef, .undef, .undef, .undef, .undef, .undef, .undef, .undef, .undef, .undef, .undef, .undef, .undef, .undef, .undef, .undef, .undef, .undef, .undef, .undef, .undef, .undef, .undef, .undef, .undef, .undef, .undef, .undef, .undef, .undef, .undef, .undef, .undef, .undef, .undef, .undef, .undef, .undef, .undef, .undef, .undef, .undef, .undef, .undef, .undef, .undef, .undef, .undef, .undef, .undef, .undef, .undef, .undef, .undef, .undef, .undef, .undef, .undef, .undef, .undef], [([1000], (.row false (some 2) v.2.2.2.2.2.2.2.2.2))]⟩
def f53_J1 {X : Type} (R_f44 : f44_R) (R_f55 : f55_R) (R_f53 : f53_R) (k : Nat) (K : (List CV) → Option X) (v9_33 : Nat × Int × Int × Int × Int × Int × Int × Int × Int × (List CV)) (v44 : (List CV)) : Option X :=
(bif (decide (v9_33.2.2.2.2.1 < (IntKind.wrap .i64 (v9_33.2.2.2.2.2.1 - v9_33.2.2.2.2.2.2.1)))) then
(bif (decide ((IntKind.wrap .i64 (v9_33.2.2.2.2.2.1 - v9_33.2.2.2.2.2.2.1)) < v9_33.2.2.2.1)) then
R_f53 _ (fun u45 =>
K (u45)) (v9_33.1) (v9_33.2.2.2.2.1) ((IntKind.wrap .i64 (v9_33.2.2.2.2.2.1 - v9_33.2.2.2.2.2.2.1))) (v9_33.2.2.2.1) (v44)
else
K (v44))
else
K (v44))
def f53_J2 {X : Type} (R_f44 : f44_R) (R_f55 : f55_R) (R_f53 : f53_R) (k : Nat) (K : (List CV) → Option X) (v9_33 : Nat × Int × Int × Int × Int × Int × Int × Int × Int × (List CV)) (v42 : (List CV)) : Option X :=
(bif (decide (v9_33.2.1 < v9_33.2.2.2.2.2.2.1)) then
(bif (decide (v9_33.2.2.2.2.2.2.1 < v9_33.2.2.2.2.1)) then
R_f53 _ (fun u46 =>
f53_J1 R_f44 R_f55 R_f53 k K v9_33 (u46)) (v9_33.1) (v9_33.2.1) (v9_33.2.2.2.2.2.2.1) (v9_33.2.2.2.2.1) (v42)
else
f53_J1 R_f44 R_f55 R_f53 k K v9_33 (v42))
else
f53_J1 R_f44 R_f55 R_f53 k K v9_33 (v42))
def f53_J3 {X : Type} (R_f44 : f44_R) (R_f55 : f55_R) (R_f53 : f53_R) (k : Nat) (K : (List CV) → Option X) (loop5 : Nat × Int × Int × Int × Int × Int × Int × Int × Int × (List CV) → Option X) (x0 : Nat) (x1 : Int) (x2 : Int) (x3 : Int) (x4 : List CV) (v33 : Int × Int × Int × Int) : Option X :=
loop5 (x0, x1, x2, x3, v33.1, v33.2.1, v33.2.2.1, v33.2.2.2, (IntKind.wrap .i64 (v33.2.1 - 1)), x4)
def f53_T5 {X : Type} (R_f44 : f44_R) (R_f55 : f55_R) (R_f53 : f53_R) (k : Nat) (K : (List CV) → Option X)   (rec5 : Nat × Int × Int × Int × Int × Int × Int × Int × Int × (List CV) → Option X) (v9_33 : Nat × Int × Int × Int × Int × Int × Int × Int × Int × (List CV)) : Option X :=
(bif (decide (v9_33.2.2.2.2.2.2.1 < v9_33.2.2.2.2.2.2.2.1)) then
grd (decide (0 ≤ (IntKind.wrap .i64 (v9_33.2.2.2.2.2.2.2.2.1 - (IntKind.wrap .i64 (Int.fdiv (IntKind.wrap .u64 (IntKind.wrap .i64 (v9_33.2.2.2.2.2.2.1 + v9_33.2.2.2.2.2.2.2.1))) (2 ^ 1))))))) <|
grd (decide ((IntKind.wrap .i64 (v9_33.2.2.2.2.2.2.2.2.1 - (IntKind.wrap .i64 (Int.fdiv (IntKind.wrap .u64 (IntKind.wrap .i64 (v9_33.2.2.2.2.2.2.1 + v9_33.2.2.2.2.2.2.2.1))) (2 ^ 1))))) < (Nat.cast (v9_33.1) : Int))) <|
Option.bind (v9_33.2.2.2.2.2.2.2.2.2)[(0 + (Int.toNat (IntKind.wrap .i64 (v9_33.2.2.2.2.2.2.2.2.1 - (IntKind.wrap .i64 (Int.fdiv (IntKind.wrap .u64 (IntKind.wrap .i64 (v9_33.2.2.2.2.2.2.1 + v9_33.2.2.2.2.2.2.2.1))) (2 ^ 1)))))))]? fun e38 =>
grd (decide (0 ≤ (IntKind.wrap .i64 (Int.fdiv (IntKind.wrap .u64 (IntKind.wrap .i64 (v9_33.2.2.2.2.2.2.1 + v9_33.2.2.2.2.2.2.2.1))) (2 ^ 1))))) <|
grd (decide ((IntKind.wrap .i64 (Int.fdiv (IntKind.wrap .u64 (IntKind.wrap .i64 (v9_33.2.2.2.2.2.2.1 + v9_33.2.2.2.2.2.2.2.1))) (2 ^ 1))) < (Nat.cast (v9_33.1) : Int))) <|
Option.bind (v9_33.2.2.2.2.2.2.2.2.2)[(0 + (Int.toNat (IntKind.wrap .i64 (Int.fdiv (IntKind.wrap .u64 (IntKind.wrap .i64 (v9_33.2.2.2.2.2.2.1 + v9_33.2.2.2.2.2.2.2.1))) (2 ^ 1)))))]? fun e39 =>
R_f44 _ (fun u40 =>
(bif (!(decide (u40 < 0))) then
rec5 (v9_33.1, v9_33.2.1, v9_33.2.2.1, v9_33.2.2.2.1, v9_33.2.2.2.2.1, v9_33.2.2.2.2.2.1, (IntKind.wrap .i64 ((IntKind.wrap .i64 (Int.fdiv (IntKind.wrap .u64 (IntKind.wrap .i64 (v9_33.2.2.2.2.2.2.1 + v9_33.2.2.2.2.2.2.2.1))) (2 ^ 1))) + 1)), v9_33.2.2.2.2.2.2.2.1, v9_33.2.2.2.2.2.2.2.2.1, v9_33.2.2.2.2.2.2.2.2.2)
else
rec5 (v9_33.1, v9_33.2.1, v9_33.2.2.1, v9_33.2.2.2.1, v9_33.2.2.2.2.1, v9_33.2.2.2.2.2.1, v9_33.2.2.2.2.2.2.1, (IntKind.wrap .i64 (Int.fdiv (IntKind.wrap .u64 (IntKind.wrap .i64 (v9_33.2.2.2.2.2.2.1 + v9_33.2.2.2.2.2.2.2.1))) (2 ^ 1))), v9_33.2.2.2.2.2.2.2.2.1, v9_33.2.2.2.2.2.2.2.2.2))) (e38) (e39)
else
(bif (decide (v9_33.2.2.2.2.2.2.1 < v9_33.2.2.1)) then
(bif (decide (v9_33.2.2.1 < (IntKind.wrap .i64 (v9_33.2.2.2.2.2.1 - v9_33.2.2.2.2.2.2.1)))) then
R_f55 _ (fun u47 =>
f53_J2 R_f44 R_f55 R_f53 k K v9_33 (u47)) (v9_33.1) (v9_33.2.2.2.2.2.2.1) (v9_33.2.2.1) ((IntKind.wrap .i64 (v9_33.2.2.2.2.2.1 - v9_33.2.2.2.2.2.2.1))) (v9_33.2.2.2.2.2.2.2.2.2)
else
f53_J2 R_f44 R_f55 R_f53 k K v9_33 (v9_33.2.2.2.2.2.2.2.2.2))
else
f53_J2 R_f44 R_f55 R_f53 k K v9_33 (v9_33.2.2.2.2.2.2.2.2.2)))
def f53_L5 {X : Type} (R_f44 : f44_R) (R_f55 : f55_R) (R_f53 : f53_R) (k : Nat) (K : (List CV) → Option X)  (rec5 : Nat × Int × Int × Int × Int × Int × Int × Int × Int × (List CV) → Option X) (v : Nat × Int × Int × Int × Int × Int × Int × Int × Int × (List CV)) : Option X := f53_T5 R_f44 R_f55 R_f53 k K   rec5 v
set_option maxRecDepth 100000 in
theorem f53_L5_ev {X : Type} (R_f44 : f44_R) (R_f55 : f55_R) (R_f53 : f53_R) (hR_f44 : AnsOk Try.prog 44 (f44_cOf R_f44)) (hR_f55 : AnsOk Try.prog 55 (f55_cOf R_f55)) (hR_f53 : AnsOk Try.prog 53 (f53_cOf R_f53)) (k : Nat) (K : Out → Option X)  (r5 : St → Option X) (v : Nat × Int × Int × Int × Int × Int × Int × Int × Int × (List CV)) : loopB (f53_cx R_f44 R_f55 R_f53 hR_f44 hR_f55 hR_f53) k [.r, .r, .r, .r, .r, .r, .r, .l, .b] (Try.f53.body.getD .skip) (retK (f53_cx R_f44 R_f55 R_f53 hR_f44 hR_f55 hR_f53) [] Try.f53.results.toList K) [] r5 (f53_S5 v) = f53_T5 R_f44 R_f55 R_f53 k (fun u => K (f53_out u))   (fun v => r5 (f53_S5 v)) v := by kernel_rfl
theorem f53_L5_it {X : Type} (R_f44 : f44_R) (R_f55 : f55_R) (R_f53 : f53_R) (hR_f44 : AnsOk Try.prog 44 (f44_cOf R_f44)) (hR_f55 : AnsOk Try.prog 55 (f55_cOf R_f55)) (hR_f53 : AnsOk Try.prog 53 (f53_cOf R_f53)) (k : Nat) (K : Out → Option X)  : (fun v => iter (loopB (f53_cx R_f44 R_f55 R_f53 hR_f44 hR_f55 hR_f53) k [.r, .r, .r, .r, .r, .r, .r, .l, .b] (Try.f53.body.getD .skip) (retK (f53_cx R_f44 R_f55 R_f53 hR_f44 hR_f55 hR_f53) [] Try.f53.results.toList K) []) k (f53_S5 v)) = iterV (f53_L5 R_f44 R_f55 R_f53 k (fun u => K (f53_out u)) ) k :=
  iter_map (fun r5 v => (f53_L5_ev R_f44 R_f55 R_f53 hR_f44 hR_f55 hR_f53 k K  r5 v).trans rfl) k
def f53_T4 {X : Type} (R_f44 : f44_R) (R_f55 : f55_R) (R_f53 : f53_R) (k : Nat) (K : (List CV) → Option X)   (rec4 : Nat × Int × Int × (List CV) → Option X) (v10_23 : Nat × Int × Int × (List CV)) : Option X :=
(bif (decide (v10_23.2.2.1 > v10_23.2.1)) then
grd (decide (0 ≤ (IntKind.wrap .i64 (v10_23.2.2.1 - 1)))) <|
grd (decide ((IntKind.wrap .i64 (v10_23.2.2.1 - 1)) < (Nat.cast (v10_23.1) : Int))) <|
Option.bind (v10_23.2.2.2)[(0 + (Int.toNat (IntKind.wrap .i64 (v10_23.2.2.1 - 1))))]? fun e31 =>
grd (decide (0 ≤ v10_23.2.2.1)) <|
grd (decide (v10_23.2.2.1 < (Nat.cast (v10_23.1) : Int))) <|
Option.bind (v10_23.2.2.2)[(0 + (Int.toNat v10_23.2.2.1))]? fun e32 =>
grd (decide (0 ≤ v10_23.2.2.1)) <|
grd (decide (v10_23.2.2.1 < (Nat.cast (v10_23.1) : Int))) <|
grd (Nat.beq (CV.ncells e31) 2 && CV.isAgg e31) <|
grd (decide ((0 + (Int.toNat v10_23.2.2.1)) < (List.length v10_23.2.2.2))) <|
grd (decide (0 ≤ (IntKind.wrap .i64 (v10_23.2.2.1 - 1)))) <|
grd (decide ((IntKind.wrap .i64 (v10_23.2.2.1 - 1)) < (Nat.cast (v10_23.1) : Int))) <|
grd (Nat.beq (CV.ncells e32) 2 && CV.isAgg e32) <|
grd (decide ((0 + (Int.toNat (IntKind.wrap .i64 (v10_23.2.2.1 - 1)))) < (List.length (List.set v10_23.2.2.2 (0 + (Int.toNat v10_23.2.2.1)) e31)))) <|
rec4 (v10_23.1, v10_23.2.1, (IntKind.wrap .i64 (v10_23.2.2.1 - 1)), (List.set (List.set v10_23.2.2.2 (0 + (Int.toNat v10_23.2.2.1)) e31) (0 + (Int.toNat (IntKind.wrap .i64 (v10_23.2.2.1 - 1)))) e32))
else
K (v10_23.2.2.2))
def f53_L4 {X : Type} (R_f44 : f44_R) (R_f55 : f55_R) (R_f53 : f53_R) (k : Nat) (K : (List CV) → Option X)  (rec4 : Nat × Int × Int × (List CV) → Option X) (v : Nat × Int × Int × (List CV)) : Option X := f53_T4 R_f44 R_f55 R_f53 k K   rec4 v
set_option maxRecDepth 100000 in
theorem f53_L4_ev {X : Type} (R_f44 : f44_R) (R_f55 : f55_R) (R_f53 : f53_R) (hR_f44 : AnsOk Try.prog 44 (f44_cOf R_f44)) (hR_f55 : AnsOk Try.prog 55 (f55_cOf R_f55)) (hR_f53 : AnsOk Try.prog 53 (f53_cOf R_f53)) (k : Nat) (K : Out → Option X)  (r4 : St → Option X) (v : Nat × Int × Int × (List CV)) : loopB (f53_cx R_f44 R_f55 R_f53 hR_f44 hR_f55 hR_f53) k [.r, .l, .r, .t, .r, .r, .r, .l, .r, .b] (Try.f53.body.getD .skip) (retK (f53_cx R_f44 R_f55 R_f53 hR_f44 hR_f55 hR_f53) [] Try.f53.results.toList K) [] r4 (f53_S4 v) = f53_T4 R_f44 R_f55 R_f53 k (fun u => K (f53_out u))   (fun v => r4 (f53_S4 v)) v := by kernel_rfl
theorem f53_L4_it {X : Type} (R_f44 : f44_R) (R_f55 : f55_R) (R_f53 : f53_R) (hR_f44 : AnsOk Try.prog 44 (f44_cOf R_f44)) (hR_f55 : AnsOk Try.prog 55 (f55_cOf R_f55)) (hR_f53 : AnsOk Try.prog 53 (f53_cOf R_f53)) (k : Nat) (K : Out → Option X)  : (fun v => iter (loopB (f53_cx R_f44 R_f55 R_f53 hR_f44 hR_f55 hR_f53) k [.r, .l, .r, .t, .r, .r, .r, .l, .r, .b] (Try.f53.body.getD .skip) (retK (f53_cx R_f44 R_f55 R_f53 hR_f44 hR_f55 hR_f53) [] Try.f53.results.toList K) []) k (f53_S4 v)) = iterV (f53_L4 R_f44 R_f55 R_f53 k (fun u => K (f53_out u)) ) k :=
  iter_map (fun r4 v => (f53_L4_ev R_f44 R_f55 R_f53 hR_f44 hR_f55 hR_f53 k K  r4 v).trans rfl) k
def f53_T3 {X : Type} (R_f44 : f44_R) (R_f55 : f55_R) (R_f53 : f53_R) (k : Nat) (K : (List CV) → Option X)  (loop4 : Nat × Int × Int × (List CV) → Option X) (rec3 : Nat × Int × Int × Int × (List CV) → Option X) (v8_16 : Nat × Int × Int × Int × (List CV)) : Option X :=
(bif (decide (v8_16.2.2.1 < v8_16.2.2.2.1)) then
grd (decide (0 ≤ v8_16.2.1)) <|
grd (decide (v8_16.2.1 < (Nat.cast (v8_16.1) : Int))) <|
Option.bind (v8_16.2.2.2.2)[(0 + (Int.toNat v8_16.2.1))]? fun e21 =>
grd (decide (0 ≤ (IntKind.wrap .i64 (Int.fdiv (IntKind.wrap .u64 (IntKind.wrap .i64 (v8_16.2.2.1 + v8_16.2.2.2.1))) (2 ^ 1))))) <|
grd (decide ((IntKind.wrap .i64 (Int.fdiv (IntKind.wrap .u64 (IntKind.wrap .i64 (v8_16.2.2.1 + v8_16.2.2.2.1))) (2 ^ 1))) < (Nat.cast (v8_16.1) : Int))) <|
Option.bind (v8_16.2.2.2.2)[(0 + (Int.toNat (IntKind.wrap .i64 (Int.fdiv (IntKind.wrap .u64 (IntKind.wrap .i64 (v8_16.2.2.1 + v8_16.2.2.2.1))) (2 ^ 1)))))]? fun e22 =>
R_f44 _ (fun u23 =>
(bif (!(decide (u23 < 0))) then
rec3 (v8_16.1, v8_16.2.1, (IntKind.wrap .i64 ((IntKind.wrap .i64 (Int.fdiv (IntKind.wrap .u64 (IntKind.wrap .i64 (v8_16.2.2.1 + v8_16.2.2.2.1))) (2 ^ 1))) + 1)), v8_16.2.2.2.1, v8_16.2.2.2.2)
else
rec3 (v8_16.1, v8_16.2.1, v8_16.2.2.1, (IntKind.wrap .i64 (Int.fdiv (IntKind.wrap .u64 (IntKind.wrap .i64 (v8_16.2.2.1 + v8_16.2.2.2.1))) (2 ^ 1))), v8_16.2.2.2.2))) (e21) (e22)
else
loop4 (v8_16.1, v8_16.2.2.1, v8_16.2.1, v8_16.2.2.2.2))
def f53_L3 {X : Type} (R_f44 : f44_R) (R_f55 : f55_R) (R_f53 : f53_R) (k : Nat) (K : (List CV) → Option X)  (rec3 : Nat × Int × Int × Int × (List CV) → Option X) (v : Nat × Int × Int × Int × (List CV)) : Option X := f53_T3 R_f44 R_f55 R_f53 k K  (iterV (f53_L4 R_f44 R_f55 R_f53 k K ) k) rec3 v
set_option maxRecDepth 100000 in
theorem f53_L3_ev {X : Type} (R_f44 : f44_R) (R_f55 : f55_R) (R_f53 : f53_R) (hR_f44 : AnsOk Try.prog 44 (f44_cOf R_f44)) (hR_f55 : AnsOk Try.prog 55 (f55_cOf R_f55)) (hR_f53 : AnsOk Try.prog 53 (f53_cOf R_f53)) (k : Nat) (K : Out → Option X)  (r3 : St → Option X) (v : Nat × Int × Int × Int × (List CV)) : loopB (f53_cx R_f44 R_f55 R_f53 hR_f44 hR_f55 hR_f53) k [.r, .l, .r, .t, .r, .r, .l, .b] (Try.f53.body.getD .skip) (retK (f53_cx R_f44 R_f55 R_f53 hR_f44 hR_f55 hR_f53) [] Try.f53.results.toList K) [] r3 (f53_S3 v) = f53_T3 R_f44 R_f55 R_f53 k (fun u => K (f53_out u))  (fun v => iter (loopB (f53_cx R_f44 R_f55 R_f53 hR_f44 hR_f55 hR_f53) k [.r, .l, .r, .t, .r, .r, .r, .l, .r, .b] (Try.f53.body.getD .skip) (retK (f53_cx R_f44 R_f55 R_f53 hR_f44 hR_f55 hR_f53) [] Try.f53.results.toList K) []) k (f53_S4 v)) (fun v => r3 (f53_S3 v)) v := by kernel_rfl
theorem f53_L3_it {X : Type} (R_f44 : f44_R) (R_f55 : f55_R) (R_f53 : f53_R) (hR_f44 : AnsOk Try.prog 44 (f44_cOf R_f44)) (hR_f55 : AnsOk Try.prog 55 (f55_cOf R_f55)) (hR_f53 : AnsOk Try.prog 53 (f53_cOf R_f53)) (k : Nat) (K : Out → Option X)  : (fun v => iter (loopB (f53_cx R_f44 R_f55 R_f53 hR_f44 hR_f55 hR_f53) k [.r, .l, .r, .t, .r, .r, .l, .b] (Try.f53.body.getD .skip) (retK (f53_cx R_f44 R_f55 R_f53 hR_f44 hR_f55 hR_f53) [] Try.f53.results.toList K) []) k (f53_S3 v)) = iterV (f53_L3 R_f44 R_f55 R_f53 k (fun u => K (f53_out u)) ) k :=
  iter_map (fun r3 v => (f53_L3_ev R_f44 R_f55 R_f53 hR_f44 hR_f55 hR_f53 k K  r3 v).trans (by rw [f53_L4_it R_f44 R_f55 R_f53 hR_f44 hR_f55 hR_f53 k K ]; rfl)) k
def f53_T2 {X : Type} (R_f44 : f44_R) (R_f55 : f55_R) (R_f53 : f53_R) (k : Nat) (K : (List CV) → Option X)   (rec2 : Nat × Int × Int × (List CV) → Option X) (v9_7 : Nat × Int × Int × (List CV)) : Option X :=
(bif (decide (v9_7.2.2.1 < (IntKind.wrap .i64 (v9_7.2.1 - 1)))) then
grd (decide (0 ≤ (IntKind.wrap .i64 (v9_7.2.2.1 + 1)))) <|
grd (decide ((IntKind.wrap .i64 (v9_7.2.2.1 + 1)) < (Nat.cast (v9_7.1) : Int))) <|
Option.bind (v9_7.2.2.2)[(0 + (Int.toNat (IntKind.wrap .i64 (v9_7.2.2.1 + 1))))]? fun e15 =>
grd (decide (0 ≤ v9_7.2.2.1)) <|
grd (decide (v9_7.2.2.1 < (Nat.cast (v9_7.1) : Int))) <|
Option.bind (v9_7.2.2.2)[(0 + (Int.toNat v9_7.2.2.1))]? fun e16 =>
grd (decide (0 ≤ v9_7.2.2.1)) <|
grd (decide (v9_7.2.2.1 < (Nat.cast (v9_7.1) : Int))) <|
grd (Nat.beq (CV.ncells e15) 2 && CV.isAgg e15) <|
grd (decide ((0 + (Int.toNat v9_7.2.2.1)) < (List.length v9_7.2.2.2))) <|
grd (decide (0 ≤ (IntKind.wrap .i64 (v9_7.2.2.1 + 1)))) <|
grd (decide ((IntKind.wrap .i64 (v9_7.2.2.1 + 1)) < (Nat.cast (v9_7.1) : Int))) <|
grd (Nat.beq (CV.ncells e16) 2 && CV.isAgg e16) <|
grd (decide ((0 + (Int.toNat (IntKind.wrap .i64 (v9_7.2.2.1 + 1)))) < (List.length (List.set v9_7.2.2.2 (0 + (Int.toNat v9_7.2.2.1)) e15)))) <|
rec2 (v9_7.1, v9_7.2.1, (IntKind.wrap .i64 (v9_7.2.2.1 + 1)), (List.set (List.set v9_7.2.2.2 (0 + (Int.toNat v9_7.2.2.1)) e15) (0 + (Int.toNat (IntKind.wrap .i64 (v9_7.2.2.1 + 1)))) e16))
else
K (v9_7.2.2.2))
def f53_L2 {X : Type} (R_f44 : f44_R) (R_f55 : f55_R) (R_f53 : f53_R) (k : Nat) (K : (List CV) → Option X)  (rec2 : Nat × Int × Int × (List CV) → Option X) (v : Nat × Int × Int × (List CV)) : Option X := f53_T2 R_f44 R_f55 R_f53 k K   rec2 v
set_option maxRecDepth 100000 in
theorem f53_L2_ev {X : Type} (R_f44 : f44_R) (R_f55 : f55_R) (R_f53 : f53_R) (hR_f44 : AnsOk Try.prog 44 (f44_cOf R_f44)) (hR_f55 : AnsOk Try.prog 55 (f55_cOf R_f55)) (hR_f53 : AnsOk Try.prog 53 (f53_cOf R_f53)) (k : Nat) (K : Out → Option X)  (r2 : St → Option X) (v : Nat × Int × Int × (List CV)) : loopB (f53_cx R_f44 R_f55 R_f53 hR_f44 hR_f55 hR_f53) k [.l, .r, .t, .r, .r, .r, .l, .r, .b] (Try.f53.body.getD .skip) (retK (f53_cx R_f44 R_f55 R_f53 hR_f44 hR_f55 hR_f53) [] Try.f53.results.toList K) [] r2 (f53_S2 v) = f53_T2 R_f44 R_f55 R_f53 k (fun u => K (f53_out u))   (fun v => r2 (f53_S2 v)) v := by kernel_rfl
theorem f53_L2_it {X : Type} (R_f44 : f44_R) (R_f55 : f55_R) (R_f53 : f53_R) (hR_f44 : AnsOk Try.prog 44 (f44_cOf R_f44)) (hR_f55 : AnsOk Try.prog 55 (f55_cOf R_f55)) (hR_f53 : AnsOk Try.prog 53 (f53_cOf R_f53)) (k : Nat) (K : Out → Option X)  : (fun v => iter (loopB (f53_cx R_f44 R_f55 R_f53 hR_f44 hR_f55 hR_f53) k [.l, .r, .t, .r, .r, .r, .l, .r, .b] (Try.f53.body.getD .skip) (retK (f53_cx R_f44 R_f55 R_f53 hR_f44 hR_f55 hR_f53) [] Try.f53.results.toList K) []) k (f53_S2 v)) = iterV (f53_L2 R_f44 R_f55 R_f53 k (fun u => K (f53_out u)) ) k :=
  iter_map (fun r2 v => (f53_L2_ev R_f44 R_f55 R_f53 hR_f44 hR_f55 hR_f53 k K  r2 v).trans rfl) k
def f53_T1 {X : Type} (R_f44 : f44_R) (R_f55 : f55_R) (R_f53 : f53_R) (k : Nat) (K : (List CV) → Option X)  (loop2 : Nat × Int × Int × (List CV) → Option X) (rec1 : Nat × Int × Int × Int × (List CV) → Option X) (v7_0 : Nat × Int × Int × Int × (List CV)) : Option X :=
(bif (decide (v7_0.2.2.1 < v7_0.2.2.2.1)) then
grd (decide (0 ≤ (IntKind.wrap .i64 (Int.fdiv (IntKind.wrap .u64 (IntKind.wrap .i64 (v7_0.2.2.1 + v7_0.2.2.2.1))) (2 ^ 1))))) <|
grd (decide ((IntKind.wrap .i64 (Int.fdiv (IntKind.wrap .u64 (IntKind.wrap .i64 (v7_0.2.2.1 + v7_0.2.2.2.1))) (2 ^ 1))) < (Nat.cast (v7_0.1) : Int))) <|
Option.bind (v7_0.2.2.2.2)[(0 + (Int.toNat (IntKind.wrap .i64 (Int.fdiv (IntKind.wrap .u64 (IntKind.wrap .i64 (v7_0.2.2.1 + v7_0.2.2.2.1))) (2 ^ 1)))))]? fun e5 =>
grd (decide (0 ≤ v7_0.2.1)) <|
grd (decide (v7_0.2.1 < (Nat.cast (v7_0.1) : Int))) <|
Option.bind (v7_0.2.2.2.2)[(0 + (Int.toNat v7_0.2.1))]? fun e6 =>
R_f44 _ (fun u7 =>
(bif (decide (u7 < 0)) then
rec1 (v7_0.1, v7_0.2.1, (IntKind.wrap .i64 ((IntKind.wrap .i64 (Int.fdiv (IntKind.wrap .u64 (IntKind.wrap .i64 (v7_0.2.2.1 + v7_0.2.2.2.1))) (2 ^ 1))) + 1)), v7_0.2.2.2.1, v7_0.2.2.2.2)
else
rec1 (v7_0.1, v7_0.2.1, v7_0.2.2.1, (IntKind.wrap .i64 (Int.fdiv (IntKind.wrap .u64 (IntKind.wrap .i64 (v7_0.2.2.1 + v7_0.2.2.2.1))) (2 ^ 1))), v7_0.2.2.2.2))) (e5) (e6)
else
loop2 (v7_0.1, v7_0.2.2.1, v7_0.2.1, v7_0.2.2.2.2))
def f53_L1 {X : Type} (R_f44 : f44_R) (R_f55 : f55_R) (R_f53 : f53_R) (k : Nat) (K : (List CV) → Option X)  (rec1 : Nat × Int × Int × Int × (List CV) → Option X) (v : Nat × Int × Int × Int × (List CV)) : Option X := f53_T1 R_f44 R_f55 R_f53 k K  (iterV (f53_L2 R_f44 R_f55 R_f53 k K ) k) rec1 v
set_option maxRecDepth 100000 in
theorem f53_L1_ev {X : Type} (R_f44 : f44_R) (R_f55 : f55_R) (R_f53 : f53_R) (hR_f44 : AnsOk Try.prog 44 (f44_cOf R_f44)) (hR_f55 : AnsOk Try.prog 55 (f55_cOf R_f55)) (hR_f53 : AnsOk Try.prog 53 (f53_cOf R_f53)) (k : Nat) (K : Out → Option X)  (r1 : St → Option X) (v : Nat × Int × Int × Int × (List CV)) : loopB (f53_cx R_f44 R_f55 R_f53 hR_f44 hR_f55 hR_f53) k [.l, .r, .t, .r, .r, .l, .b] (Try.f53.body.getD .skip) (retK (f53_cx R_f44 R_f55 R_f53 hR_f44 hR_f55 hR_f53) [] Try.f53.results.toList K) [] r1 (f53_S1 v) = f53_T1 R_f44 R_f55 R_f53 k (fun u => K (f53_out u))  (fun v => iter (loopB (f53_cx R_f44 R_f55 R_f53 hR_f44 hR_f55 hR_f53) k [.l, .r, .t, .r, .r, .r, .l, .r, .b] (Try.f53.body.getD .skip) (retK (f53_cx R_f44 R_f55 R_f53 hR_f44 hR_f55 hR_f53) [] Try.f53.results.toList K) []) k (f53_S2 v)) (fun v => r1 (f53_S1 v)) v := by kernel_rfl
theorem f53_L1_it {X : Type} (R_f44 : f44_R) (R_f55 : f55_R) (R_f53 : f53_R) (hR_f44 : AnsOk Try.prog 44 (f44_cOf R_f44)) (hR_f55 : AnsOk Try.prog 55 (f55_cOf R_f55)) (hR_f53 : AnsOk Try.prog 53 (f53_cOf R_f53)) (k : Nat) (K : Out → Option X)  : (fun v => iter (loopB (f53_cx R_f44 R_f55 R_f53 hR_f44 hR_f55 hR_f53) k [.l, .r, .t, .r, .r, .l, .b] (Try.f53.body.getD .skip) (retK (f53_cx R_f44 R_f55 R_f53 hR_f44 hR_f55 hR_f53) [] Try.f53.results.toList K) []) k (f53_S1 v)) = iterV (f53_L1 R_f44 R_f55 R_f53 k (fun u => K (f53_out u)) ) k :=
  iter_map (fun r1 v => (f53_L1_ev R_f44 R_f55 R_f53 hR_f44 hR_f55 hR_f53 k K  r1 v).trans (by rw [f53_L2_it R_f44 R_f55 R_f53 hR_f44 hR_f55 hR_f53 k K ]; rfl)) k
def f53_T {X : Type} (R_f44 : f44_R) (R_f55 : f55_R) (R_f53 : f53_R) (k : Nat) (K : (List CV) → Option X) (loop1 : Nat × Int × Int × Int × (List CV) → Option X) (loop3 : Nat × Int × Int × Int × (List CV) → Option X) (loop5 : Nat × Int × Int × Int × Int × Int × Int × Int × Int × (List CV) → Option X) (x0 : Nat) (x1 : Int) (x2 : Int) (x3 : Int) (x4 : List CV) : Option X :=
(bif ((IntKind.wrap .i64 (x2 - x1)) == 1) then
loop1 (x0, x1, x2, x3, x4)
else
(bif ((IntKind.wrap .i64 (x3 - x2)) == 1) then
loop3 (x0, x2, x1, x2, x4)
else
(bif (decide (x2 > (IntKind.wrap .i64 (Int.fdiv (IntKind.wrap .u64 (IntKind.wrap .i64 (x1 + x3))) (2 ^ 1))))) then
f53_J3 R_f44 R_f55 R_f53 k K loop5 x0 x1 x2 x3 x4 ((IntKind.wrap .i64 (Int.fdiv (IntKind.wrap .u64 (IntKind.wrap .i64 (x1 + x3))) (2 ^ 1))), (IntKind.wrap .i64 ((IntKind.wrap .i64 (Int.fdiv (IntKind.wrap .u64 (IntKind.wrap .i64 (x1 + x3))) (2 ^ 1))) + x2)), (IntKind.wrap .i64 ((IntKind.wrap .i64 ((IntKind.wrap .i64 (Int.fdiv (IntKind.wrap .u64 (IntKind.wrap .i64 (x1 + x3))) (2 ^ 1))) + x2)) - x3)), (IntKind.wrap .i64 (Int.fdiv (IntKind.wrap .u64 (IntKind.wrap .i64 (x1 + x3))) (2 ^ 1))))
else
f53_J3 R_f44 R_f55 R_f53 k K loop5 x0 x1 x2 x3 x4 ((IntKind.wrap .i64 (Int.fdiv (IntKind.wrap .u64 (IntKind.wrap .i64 (x1 + x3))) (2 ^ 1))), (IntKind.wrap .i64 ((IntKind.wrap .i64 (Int.fdiv (IntKind.wrap .u64 (IntKind.wrap .i64 (x1 + x3))) (2 ^ 1))) + x2)), x1, x2))))
/-- "slices.symMergeCmpFunc[outpost/api.Opt]" -/
def f53_A (R_f44 : f44_R) (R_f55 : f55_R) (R_f53 : f53_R) (k : Nat) : f53_R := fun X K x0 x1 x2 x3 x4 => f53_T R_f44 R_f55 R_f53 k K (iterV (f53_L1 R_f44 R_f55 R_f53 k K) k) (iterV (f53_L3 R_f44 R_f55 R_f53 k K) k) (iterV (f53_L5 R_f44 R_f55 R_f53 k K) k) x0 x1 x2 x3 x4
set_option maxRecDepth 100000 in
theorem f53_ev' {X : Type} (R_f44 : f44_R) (R_f55 : f55_R) (R_f53 : f53_R) (hR_f44 : AnsOk Try.prog 44 (f44_cOf R_f44)) (hR_f55 : AnsOk Try.prog 55 (f55_cOf R_f55)) (hR_f53 : AnsOk Try.prog 53 (f53_cOf R_f53)) (k : Nat) (K : Out → Option X) (x0 : Nat) (x1 : Int) (x2 : Int) (x3 : Int) (x4 : List CV) : evFn (f53_cx R_f44 R_f55 R_f53 hR_f44 hR_f55 hR_f53) [] k Try.f53.ntmps Try.f53.results.toList (Try.f53.body.getD .skip) [(.osl [1000] (some 2) 0 x0), (.v (CV.int .i64 x1)), (.v (CV.int .i64 x2)), (.v (CV.int .i64 x3)), (.fn 44 [])] [([1000], (.row false (some 2) x4))] K = f53_T R_f44 R_f55 R_f53 k (fun u => K (f53_out u)) (fun v => iter (loopB (f53_cx R_f44 R_f55 R_f53 hR_f44 hR_f55 hR_f53) k [.l, .r, .t, .r, .r, .l, .b] (Try.f53.body.getD .skip) (retK (f53_cx R_f44 R_f55 R_f53 hR_f44 hR_f55 hR_f53) [] Try.f53.results.toList K) []) k (f53_S1 v)) (fun v => iter (loopB (f53_cx R_f44 R_f55 R_f53 hR_f44 hR_f55 hR_f53) k [.r, .l, .r, .t, .r, .r, .l, .b] (Try.f53.body.getD .skip) (retK (f53_cx R_f44 R_f55 R_f53 hR_f44 hR_f55 hR_f53) [] Try.f53.results.toList K) []) k (f53_S3 v)) (fun v => iter (loopB (f53_cx R_f44 R_f55 R_f53 hR_f44 hR_f55 hR_f53) k [.r, .r, .r, .r, .r, .r, .r, .l, .b] (Try.f53.body.getD .skip) (retK (f53_cx R_f44 R_f55 R_f53 hR_f44 hR_f55 hR_f53) [] Try.f53.results.toList K) []) k (f53_S5 v)) x0 x1 x2 x3 x4 := by kernel_rfl
theorem f53_ev {X : Type} (R_f44 : f44_R) (R_f55 : f55_R) (R_f53 : f53_R) (hR_f44 : AnsOk Try.prog 44 (f44_cOf R_f44)) (hR_f55 : AnsOk Try.prog 55 (f55_cOf R_f55)) (hR_f53 : AnsOk Try.prog 53 (f53_cOf R_f53)) (k : Nat) (K : Out → Option X) (x0 : Nat) (x1 : Int) (x2 : Int) (x3 : Int) (x4 : List CV) : evFn (f53_cx R_f44 R_f55 R_f53 hR_f44 hR_f55 hR_f53) [] k Try.f53.ntmps Try.f53.results.toList (Try.f53.body.getD .skip) [(.osl [1000] (some 2) 0 x0), (.v (CV.int .i64 x1)), (.v (CV.int .i64 x2)), (.v (CV.int .i64 x3)), (.fn 44 [])] [([1000], (.row false (some 2) x4))] K = f53_A R_f44 R_f55 R_f53 k X (fun u => K (f53_out u)) x0 x1 x2 x3 x4 := (f53_ev' R_f44 R_f55 R_f53 hR_f44 hR_f55 hR_f53 k K x0 x1 x2 x3 x4).trans (by rw [f53_L1_it R_f44 R_f55 R_f53 hR_f44 hR_f55 hR_f53 k K, f53_L3_it R_f44 R_f55 R_f53 hR_f44 hR_f55 hR_f53 k K, f53_L5_it R_f44 R_f55 R_f53 hR_f44 hR_f55 hR_f53 k K]; rfl)
theorem f53_okA (R_f44 : f44_R) (R_f55 : f55_R) (R_f53 : f53_R) (hR_f44 : AnsOk Try.prog 44 (f44_cOf R_f44)) (hR_f55 : AnsOk Try.prog 55 (f55_cOf R_f55)) (hR_f53 : AnsOk Try.prog 53 (f53_cOf R_f53)) (k : Nat) : AnsOk Try.prog 53 (f53_cOf (f53_A R_f44 R_f55 R_f53 k)) := by
  intro X xs ns K x h
  unfold f53_cOf at h ⊢
  split at h
  · exact ans_main S (f53_Cok R_f44 R_f55 R_f53 hR_f44 hR_f55 hR_f53) Try.func53 (ent_of Try.func53 (by kernel_rfl) rfl) rfl (fun X K => f53_ev R_f44 R_f55 R_f53 hR_f44 hR_f55 hR_f53 k K _ _ _ _ _) h
  · cases h
def f53_r : Nat → f53_R
  | 0 => fun _ _ _ _ _ _ _ => none
  | k + 1 => f53_A (fun X => @f44 X k) (fun X => @f55 X k) (f53_r k) k
theorem f53_okr : ∀ k, AnsOk Try.prog 53 (f53_cOf (f53_r k))
  | 0 => by
    intro X xs ns K x h
    unfold f53_cOf at h
    split at h <;> cases h
  | k + 1 => f53_okA (fun X => @f44 X k) (fun X => @f55 X k) (f53_r k) (f44_ok k) (f55_ok k) (f53_okr k) k
def f53 {X : Type} (k : Nat) (K : (List CV) → Option X) (x0 : Nat) (x1 : Int) (x2 : Int) (x3 : Int) (x4 : List CV) : Option X := f53_r k X K x0 x1 x2 x3 x4
theorem f53_ok (k : Nat) : AnsOk Try.prog 53 (f53_cOf (fun X => @f53 X k)) := f53_okr k
abbrev f49_R : Type 1 := (X : Type) → ((List CV) → Option X) → Nat → Int → (List CV) → Option X
def f49_out (u : (List CV)) : Out := ⟨(.tup []), [([1000], (.row false (some 2) u))]⟩
def f49_cOf (R : f49_R) : FnC := fun X xs ns K => match xs, ns with
  | [(.osl [1000] (some 2) 0 x0), (.v (CV.int .i64 x1)), (.fn 44 [])], [([1000], (.row false (some 2) x2))] => R X (fun u => K (f49_out u)) x0 x1 x2
  | _, _ => none
def f49_plan : Nat → Option (List Nat × List Wk)
  | 0 => some ([0, 1, 2], [])
  | 1 => some ([0, 1, 2, 6], [])
  | 2 => some ([0, 1, 2, 6, 7, 8], [])
  | 3 => some ([0, 1, 2, 6, 7, 8], [])
  | 4 => some ([0, 1, 2, 6, 8], [])
  | 5 => some ([0, 1, 2, 6, 7, 8], [])
  | 6 => some ([0, 1, 2, 6, 7], [])
  | 7 => some ([0, 1, 2, 6], [])
  | 8 => some ([0, 1, 2, 6], [])
  | 9 => some ([0, 1, 2, 6, 7, 8], [])
  | 10 => some ([0, 1, 2, 6, 7, 8], [])
  | 11 => some ([0, 1, 2, 6, 8], [])
  | 12 => some ([0, 1, 2, 6, 7, 8], [])
  | 13 => some ([0, 1, 2, 6, 7], [])
  | 14 => some ([0, 1, 2, 6, 7, 9], [])
  | 15 => some ([0, 1, 2, 6, 7, 9], [])
  | 16 => some ([0, 1, 2, 6], [])
  | _ => none
def f49_C (R_f52 : f52_R) (R_f53 : f53_R) : Fns := (orC 52 (f52_cOf R_f52) (orC 53 (f53_cOf R_f53) noC))
theorem f49_Cok (R_f52 : f52_R) (R_f53 : f53_R) (hR_f52 : AnsOk Try.prog 52 (f52_cOf R_f52)) (hR_f53 : AnsOk Try.prog 53 (f53_cOf R_f53)) : CsOk Try.prog (f49_C R_f52 R_f53) := (orC_ok hR_f52 (orC_ok hR_f53 noC_ok))
def f49_cx (R_f52 : f52_R) (R_f53 : f53_R) (hR_f52 : AnsOk Try.prog 52 (f52_cOf R_f52)) (hR_f53 : AnsOk Try.prog 53 (f53_cOf R_f53)) : Cx := mkCx (tabOf rows) (f49_C R_f52 R_f53) md (cmpIn cmps) f49_plan (f49_Cok R_f52 R_f53 hR_f52 hR_f53)
def f49_S1 (v : Nat × Int × Int × Int × (List CV)) : St := ⟨[(.osl [1000] (some 2) 0 v.1), (.v (CV.int .i64 v.2.1)), (.fn 44 []), .undef, .undef, .undef, (.v (CV.int .i64 20)), (.v (CV.int .i64 v.2.2.1)), (.v (CV.int .i64 v.2.2.2.1)), .undef, .undef, .undef, .undef, .undef, .undef, .undef, .undef, .undef, .undef, .undef, .undef, .undef, .undef, .undef, .undef, .undef, .undef, .undef, .undef, .undef, .undef, .undef, .undef, .undef, .undef, .undef, .undef, .undef, .undef, .undef, .undef, .undef, .undef, .undef, .undef, .undef, .undef, .undef, .undef, .undef, .undef, .undef, .undef, .undef, .undef, .undef, .undef, .undef, .undef, .undef, .undef, .undef, .undef], [([1000], (.row false (some 2) v.2.2.2.2))]⟩
def f49_S2 (v : Nat × Int × Int × (List CV)) : St := ⟨[(.osl [1000] (some 2) 0 v.1), (.v (CV.int .i64 v.2.1)), (.fn 44 []), .undef, .undef, .undef, (.v (CV.int .i64 v.2.2.1)), .undef, .undef, .undef, .undef, .undef, .undef, .undef, .undef, .undef, .undef, .undef, .undef, .undef, .undef, .undef, .undef, .undef, .undef, .undef, .undef, .undef, .undef, .undef, .undef, .undef, .undef, .undef, .undef, .undef, .undef, .undef, .undef, .undef, .undef, .undef, .undef, .undef, .undef, .undef, .undef, .undef, .undef, .undef, .undef, .undef, .undef, .undef, .undef, .undef, .undef, .undef, .undef, .undef, .undef, .undef, .undef], [([1000], (.row false (some 2) v.2.2.2))]⟩
def f49_S3 (v : Nat × Int × Int × Int × Int × (List CV)) : St := ⟨[(.osl [1000] (some 2) 0 v.1), (.v (CV.int .i64 v.2.1)), (.fn 44 []), .undef, .undef, .undef, (.v (CV.int .i64 v.2.2.1)), (.v (CV.int .i64 v.2.2.2.1)), (.v (CV.int .i64 v.2.2.2.2.1)), .undef, .undef, .undef, .undef, .undef, .undef, .undef, .undef, .undef, .undef, .undef, .undef, .undef, .undef, .undef, .undef, .undef, .undef, .undef, .undef, .undef, .undef, .undef, .undef, .undef, .undef, .undef, .undef, .undef, .undef, .undef, .undef, .undef, .undef, .undef, .undef, .undef, .undef, .undef, .undef, .undef, .undef, .undef, .undef, .undef, .undef, .undef, .undef, .undef, .undef, .undef, .undef, .undef, .undef], [([1000], (.row false (some 2) v.2.2.2.2.2))]⟩
def f49_J1 {X : Type} (R_f52 : f52_R) (R_f53 : f53_R) (k : Nat) (K : (List CV) → Option X) (rec2 : Nat × Int × Int × (List CV) → Option X) (v11_10 : Nat × Int × Int × Int × Int × (List CV)) (v15 : (List CV)) : Option X :=
rec2 (v11_10.1, v11_10.2.1, (IntKind.wrap .i64 (v11_10.2.2.1 * 2)), v15)
def f49_T3 {X : Type} (R_f52 : f52_R) (R_f53 : f53_R) (k : Nat) (K : (List CV) → Option X) (rec2 : Nat × Int × Int × (List CV) → Option X)  (rec3 : Nat × Int × Int × Int × Int × (List CV) → Option X) (v11_10 : Nat × Int × Int × Int × Int × (List CV)) : Option X :=
(bif (decide (v11_10.2.2.2.2.1 ≤ v11_10.2.1)) then
R_f53 _ (fun u13 =>
rec3 (v11_10.1, v11_10.2.1, v11_10.2.2.1, v11_10.2.2.2.2.1, (IntKind.wrap .i64 (v11_10.2.2.2.2.1 + (IntKind.wrap .i64 (2 * v11_10.2.2.1)))), u13)) (v11_10.1) (v11_10.2.2.2.1) ((IntKind.wrap .i64 (v11_10.2.2.2.1 + v11_10.2.2.1))) (v11_10.2.2.2.2.1) (v11_10.2.2.2.2.2)
else
(bif (decide ((IntKind.wrap .i64 (v11_10.2.2.2.1 + v11_10.2.2.1)) < v11_10.2.1)) then
R_f53 _ (fun u16 =>
f49_J1 R_f52 R_f53 k K rec2 v11_10 (u16)) (v11_10.1) (v11_10.2.2.2.1) ((IntKind.wrap .i64 (v11_10.2.2.2.1 + v11_10.2.2.1))) (v11_10.2.1) (v11_10.2.2.2.2.2)
else
f49_J1 R_f52 R_f53 k K rec2 v11_10 (v11_10.2.2.2.2.2)))
def f49_L3 {X : Type} (R_f52 : f52_R) (R_f53 : f53_R) (k : Nat) (K : (List CV) → Option X) (rec2 : Nat × Int × Int × (List CV) → Option X) (rec3 : Nat × Int × Int × Int × Int × (List CV) → Option X) (v : Nat × Int × Int × Int × Int × (List CV)) : Option X := f49_T3 R_f52 R_f53 k K rec2  rec3 v
set_option maxRecDepth 100000 in
theorem f49_L3_ev {X : Type} (R_f52 : f52_R) (R_f53 : f53_R) (hR_f52 : AnsOk Try.prog 52 (f52_cOf R_f52)) (hR_f53 : AnsOk Try.prog 53 (f53_cOf R_f53)) (k : Nat) (K : Out → Option X) (r2 : St → Option X) (r3 : St → Option X) (v : Nat × Int × Int × Int × Int × (List CV)) : loopB (f49_cx R_f52 R_f53 hR_f52 hR_f53) k [.r, .r, .r, .r, .b, .o, .r, .b, .r, .l, .b] (Try.f49.body.getD .skip) (retK (f49_cx R_f52 R_f53 hR_f52 hR_f53) [] Try.f49.results.toList K) [r2] r3 (f49_S3 v) = f49_T3 R_f52 R_f53 k (fun u => K (f49_out u)) (fun v => r2 (f49_S2 v))  (fun v => r3 (f49_S3 v)) v := by kernel_rfl
theorem f49_L3_it {X : Type} (R_f52 : f52_R) (R_f53 : f53_R) (hR_f52 : AnsOk Try.prog 52 (f52_cOf R_f52)) (hR_f53 : AnsOk Try.prog 53 (f53_cOf R_f53)) (k : Nat) (K : Out → Option X) (r2 : St → Option X) : (fun v => iter (loopB (f49_cx R_f52 R_f53 hR_f52 hR_f53) k [.r, .r, .r, .r, .b, .o, .r, .b, .r, .l, .b] (Try.f49.body.getD .skip) (retK (f49_cx R_f52 R_f53 hR_f52 hR_f53) [] Try.f49.results.toList K) [r2]) k (f49_S3 v)) = iterV (f49_L3 R_f52 R_f53 k (fun u => K (f49_out u)) (fun v => r2 (f49_S2 v))) k :=
  iter_map (fun r3 v => (f49_L3_ev R_f52 R_f53 hR_f52 hR_f53 k K r2 r3 v).trans rfl) k
def f49_T2 {X : Type} (R_f52 : f52_R) (R_f53 : f53_R) (k : Nat) (K : (List CV) → Option X)  (loop3 : Nat × Int × Int × Int × Int × (List CV) → Option X) (rec2 : Nat × Int × Int × (List CV) → Option X) (v5_4 : Nat × Int × Int × (List CV)) : Option X :=
(bif (decide (v5_4.2.2.1 < v5_4.2.1)) then
loop3 (v5_4.1, v5_4.2.1, v5_4.2.2.1, 0, (IntKind.wrap .i64 (2 * v5_4.2.2.1)), v5_4.2.2.2)
else
K (v5_4.2.2.2))
def f49_L2 {X : Type} (R_f52 : f52_R) (R_f53 : f53_R) (k : Nat) (K : (List CV) → Option X)  (rec2 : Nat × Int × Int × (List CV) → Option X) (v : Nat × Int × Int × (List CV)) : Option X := f49_T2 R_f52 R_f53 k K  (iterV (f49_L3 R_f52 R_f53 k K rec2) k) rec2 v
set_option maxRecDepth 100000 in
theorem f49_L2_ev {X : Type} (R_f52 : f52_R) (R_f53 : f53_R) (hR_f52 : AnsOk Try.prog 52 (f52_cOf R_f52)) (hR_f53 : AnsOk Try.prog 53 (f53_cOf R_f53)) (k : Nat) (K : Out → Option X)  (r2 : St → Option X) (v : Nat × Int × Int × (List CV)) : loopB (f49_cx R_f52 R_f53 hR_f52 hR_f53) k [.r, .r, .r, .r, .b] (Try.f49.body.getD .skip) (retK (f49_cx R_f52 R_f53 hR_f52 hR_f53) [] Try.f49.results.toList K) [] r2 (f49_S2 v) = f49_T2 R_f52 R_f53 k (fun u => K (f49_out u))  (fun v => iter (loopB (f49_cx R_f52 R_f53 hR_f52 hR_f53) k [.r, .r, .r, .r, .b, .o, .r, .b, .r, .l, .b] (Try.f49.body.getD .skip) (retK (f49_cx R_f52 R_f53 hR_f52 hR_f53) [] Try.f49.results.toList K) [r2]) k (f49_S3 v)) (fun v => r2 (f49_S2 v)) v := by kernel_rfl
theorem f49_L2_it {X : Type} (R_f52 : f52_R) (R_f53 : f53_R) (hR_f52 : AnsOk Try.prog 52 (f52_cOf R_f52)) (hR_f53 : AnsOk Try.prog 53 (f53_cOf R_f53)) (k : Nat) (K : Out → Option X)  : (fun v => iter (loopB (f49_cx R_f52 R_f53 hR_f52 hR_f53) k [.r, .r, .r, .r, .b] (Try.f49.body.getD .skip) (retK (f49_cx R_f52 R_f53 hR_f52 hR_f53) [] Try.f49.results.toList K) []) k (f49_S2 v)) = iterV (f49_L2 R_f52 R_f53 k (fun u => K (f49_out u)) ) k :=
  iter_map (fun r2 v => (f49_L2_ev R_f52 R_f53 hR_f52 hR_f53 k K  r2 v).trans (by rw [f49_L3_it R_f52 R_f53 hR_f52 hR_f53 k K r2]; rfl)) k
def f49_T1 {X : Type} (R_f52 : f52_R) (R_f53 : f53_R) (k : Nat) (K : (List CV) → Option X)  (loop2 : Nat × Int × Int × (List CV) → Option X) (rec1 : Nat × Int × Int × Int × (List CV) → Option X) (v4_0 : Nat × Int × Int × Int × (List CV)) : Option X :=
(bif (decide (v4_0.2.2.2.1 ≤ v4_0.2.1)) then
R_f52 _ (fun u3 =>
rec1 (v4_0.1, v4_0.2.1, v4_0.2.2.2.1, (IntKind.wrap .i64 (v4_0.2.2.2.1 + 20)), u3)) (v4_0.1) (v4_0.2.2.1) (v4_0.2.2.2.1) (v4_0.2.2.2.2)
else
R_f52 _ (fun u4 =>
loop2 (v4_0.1, v4_0.2.1, 20, u4)) (v4_0.1) (v4_0.2.2.1) (v4_0.2.1) (v4_0.2.2.2.2))
def f49_L1 {X : Type} (R_f52 : f52_R) (R_f53 : f53_R) (k : Nat) (K : (List CV) → Option X)  (rec1 : Nat × Int × Int × Int × (List CV) → Option X) (v : Nat × Int × Int × Int × (List CV)) : Option X := f49_T1 R_f52 R_f53 k K  (iterV (f49_L2 R_f52 R_f53 k K ) k) rec1 v
set_option maxRecDepth 100000 in
theorem f49_L1_ev {X : Type} (R_f52 : f52_R) (R_f53 : f53_R) (hR_f52 : AnsOk Try.prog 52 (f52_cOf R_f52)) (hR_f53 : AnsOk Try.prog 53 (f53_cOf R_f53)) (k : Nat) (K : Out → Option X)  (r1 : St → Option X) (v : Nat × Int × Int × Int × (List CV)) : loopB (f49_cx R_f52 R_f53 hR_f52 hR_f53) k [.r, .r, .l, .b] (Try.f49.body.getD .skip) (retK (f49_cx R_f52 R_f53 hR_f52 hR_f53) [] Try.f49.results.toList K) [] r1 (f49_S1 v) = f49_T1 R_f52 R_f53 k (fun u => K (f49_out u))  (fun v => iter (loopB (f49_cx R_f52 R_f53 hR_f52 hR_f53) k [.r, .r, .r, .r, .b] (Try.f49.body.getD .skip) (retK (f49_cx R_f52 R_f53 hR_f52 hR_f53) [] Try.f49.results.toList K) []) k (f49_S2 v)) (fun v => r1 (f49_S1 v)) v := by kernel_rfl
theorem f49_L1_it {X : Type} (R_f52 : f52_R) (R_f53 : f53_R) (hR_f52 : AnsOk Try.prog 52 (f52_cOf R_f52)) (hR_f53 : AnsOk Try.prog 53 (f53_cOf R_f53)) (k : Nat) (K : Out → Option X)  : (fun v => iter (loopB (f49_cx R_f52 R_f53 hR_f52 hR_f53) k [.r, .r, .l, .b] (Try.f49.body.getD .skip) (retK (f49_cx R_f52 R_f53 hR_f52 hR_f53) [] Try.f49.results.toList K) []) k (f49_S1 v)) = iterV (f49_L1 R_f52 R_f53 k (fun u => K (f49_out u)) ) k :=
  iter_map (fun r1 v => (f49_L1_ev R_f52 R_f53 hR_f52 hR_f53 k K  r1 v).trans (by rw [f49_L2_it R_f52 R_f53 hR_f52 hR_f53 k K ]; rfl)) k
def f49_T {X : Type} (R_f52 : f52_R) (R_f53 : f53_R) (k : Nat) (K : (List CV) → Option X) (loop1 : Nat × Int × Int × Int × (List CV) → Option X) (x0 : Nat) (x1 : Int) (x2 : List CV) : Option X :=
loop1 (x0, x1, 0, 20, x2)
/-- "slices.stableCmpFunc[outpost/api.Opt]" -/
def f49_A (R_f52 : f52_R) (R_f53 : f53_R) (k : Nat) : f49_R := fun X K x0 x1 x2 => f49_T R_f52 R_f53 k K (iterV (f49_L1 R_f52 R_f53 k K) k) x0 x1 x2
set_option maxRecDepth 100000 in
theorem f49_ev' {X : Type} (R_f52 : f52_R) (R_f53 : f53_R) (hR_f52 : AnsOk Try.prog 52 (f52_cOf R_f52)) (hR_f53 : AnsOk Try.prog 53 (f53_cOf R_f53)) (k : Nat) (K : Out → Option X) (x0 : Nat) (x1 : Int) (x2 : List CV) : evFn (f49_cx R_f52 R_f53 hR_f52 hR_f53) [] k Try.f49.ntmps Try.f49.results.toList (Try.f49.body.getD .skip) [(.osl [1000] (some 2) 0 x0), (.v (CV.int .i64 x1)), (.fn 44 [])] [([1000], (.row false (some 2) x2))] K = f49_T R_f52 R_f53 k (fun u => K (f49_out u)) (fun v => iter (loopB (f49_cx R_f52 R_f53 hR_f52 hR_f53) k [.r, .r, .l, .b] (Try.f49.body.getD .skip) (retK (f49_cx R_f52 R_f53 hR_f52 hR_f53) [] Try.f49.results.toList K) []) k (f49_S1 v)) x0 x1 x2 := by kernel_rfl
theorem f49_ev {X : Type} (R_f52 : f52_R) (R_f53 : f53_R) (hR_f52 : AnsOk Try.prog 52 (f52_cOf R_f52)) (hR_f53 : AnsOk Try.prog 53 (f53_cOf R_f53)) (k : Nat) (K : Out → Option X) (x0 : Nat) (x1 : Int) (x2 : List CV) : evFn (f49_cx R_f52 R_f53 hR_f52 hR_f53) [] k Try.f49.ntmps Try.f49.results.toList (Try.f49.body.getD .skip) [(.osl [1000] (some 2) 0 x0), (.v (CV.int .i64 x1)), (.fn 44 [])] [([1000], (.row false (some 2) x2))] K = f49_A R_f52 R_f53 k X (fun u => K (f49_out u)) x0 x1 x2 := (f49_ev' R_f52 R_f53 hR_f52 hR_f53 k K x0 x1 x2).trans (by rw [f49_L1_it R_f52 R_f53 hR_f52 hR_f53 k K]; rfl)
theorem f49_okA (R_f52 : f52_R) (R_f53 : f53_R) (hR_f52 : AnsOk Try.prog 52 (f52_cOf R_f52)) (hR_f53 : AnsOk Try.prog 53 (f53_cOf R_f53)) (k : Nat) : AnsOk Try.prog 49 (f49_cOf (f49_A R_f52 R_f53 k)) := by
  intro X xs ns K x h
  unfold f49_cOf at h ⊢
  split at h
  · exact ans_main S (f49_Cok R_f52 R_f53 hR_f52 hR_f53) Try.func49 (ent_of Try.func49 (by kernel_rfl) rfl) rfl (fun X K => f49_ev R_f52 R_f53 hR_f52 hR_f53 k K _ _ _) h
  · cases h
/-- "slices.stableCmpFunc[outpost/api.Opt]" -/
def f49 {X : Type} (k : Nat) (K : (List CV) → Option X) (x0 : Nat) (x1 : Int) (x2 : List CV) : Option X := f49_A (fun X => @f52 X k) (fun X => @f53 X k) k X K x0 x1 x2
theorem f49_ok (k : Nat) : AnsOk Try.prog 49 (f49_cOf (fun X => @f49 X k)) := f49_okA (fun X => @f52 X k) (fun X => @f53 X k) (f52_ok k) (f53_ok k) k
abbrev f43_R : Type 1 := (X : Type) → ((List CV) → Option X) → Nat → (List CV) → Option X
def f43_out (u : (List CV)) : Out := ⟨(.tup []), [([1000], (.row false (some 2) u))]⟩
def f43_cOf (R : f43_R) : FnC := fun X xs ns K => match xs, ns with
  | [(.osl [1000] (some 2) 0 x0), (.fn 44 [])], [([1000], (.row false (some 2) x1))] => R X (fun u => K (f43_out u)) x0 x1
  | _, _ => none
def f43_plan : Nat → Option (List Nat × List Wk)
  | 0 => some ([0, 1], [])
  | _ => none
def f43_C (R_f49 : f49_R) : Fns := (orC 49 (f49_cOf R_f49) noC)
theorem f43_Cok (R_f49 : f49_R) (hR_f49 : AnsOk Try.prog 49 (f49_cOf R_f49)) : CsOk Try.prog (f43_C R_f49) := (orC_ok hR_f49 noC_ok)
def f43_cx (R_f49 : f49_R) (hR_f49 : AnsOk Try.prog 49 (f49_cOf R_f49)) : Cx := mkCx (tabOf rows) (f43_C R_f49) md (cmpIn cmps) f43_plan (f43_Cok R_f49 hR_f49)
def f43_T {X : Type} (R_f49 : f49_R) (k : Nat) (K : (List CV) → Option X)  (x0 : Nat) (x1 : List CV) : Option X :=
R_f49 _ (fun u1 =>
K (u1)) (x0) ((Nat.cast (x0) : Int)) (x1)
/-- "slices.SortStableFunc[[]outpost/api.Opt,outpost/api.Opt]" -/
def f43_A (R_f49 : f49_R) (k : Nat) : f43_R := fun X K x0 x1 => f43_T R_f49 k K  x0 x1
set_option maxRecDepth 100000 in
theorem f43_ev' {X : Type} (R_f49 : f49_R) (hR_f49 : AnsOk Try.prog 49 (f49_cOf R_f49)) (k : Nat) (K : Out → Option X) (x0 : Nat) (x1 : List CV) : evFn (f43_cx R_f49 hR_f49) [] k Try.f43.ntmps Try.f43.results.toList (Try.f43.body.getD .skip) [(.osl [1000] (some 2) 0 x0), (.fn 44 [])] [([1000], (.row false (some 2) x1))] K = f43_T R_f49 k (fun u => K (f43_out u)) x0 x1 := by kernel_rfl
theorem f43_ev {X : Type} (R_f49 : f49_R) (hR_f49 : AnsOk Try.prog 49 (f49_cOf R_f49)) (k : Nat) (K : Out → Option X) (x0 : Nat) (x1 : List CV) : evFn (f43_cx R_f49 hR_f49) [] k Try.f43.ntmps Try.f43.results.toList (Try.f43.body.getD .skip) [(.osl [1000] (some 2) 0 x0), (.fn 44 [])] [([1000], (.row false (some 2) x1))] K = f43_A R_f49 k X (fun u => K (f43_out u)) x0 x1 := (f43_ev' R_f49 hR_f49 k K x0 x1).trans rfl
theorem f43_okA (R_f49 : f49_R) (hR_f49 : AnsOk Try.prog 49 (f49_cOf R_f49)) (k : Nat) : AnsOk Try.prog 43 (f43_cOf (f43_A R_f49 k)) := by
  intro X xs ns K x h
  unfold f43_cOf at h ⊢
  split at h
  · exact ans_main S (f43_Cok R_f49 hR_f49) Try.func43 (ent_of Try.func43 (by kernel_rfl) rfl) rfl (fun X K => f43_ev R_f49 hR_f49 k K _ _) h
  · cases h
/-- "slices.SortStableFunc[[]outpost/api.Opt,outpost/api.Opt]" -/
def f43 {X : Type} (k : Nat) (K : (List CV) → Option X) (x0 : Nat) (x1 : List CV) : Option X := f43_A (fun X => @f49 X k) k X K x0 x1
theorem f43_ok (k : Nat) : AnsOk Try.prog 43 (f43_cOf (fun X => @f43 X k)) := f43_okA (fun X => @f49 X k) (f49_ok k) k
abbrev f26_R : Type 1 := (X : Type) → (Nat × (List CV) → Option X) → (List CV) → Option X
def f26_out (u : Nat × (List CV)) : Out := ⟨(.osl [2000] (some 2) 0 u.1), [([2000], (.row false (some 2) u.2))]⟩
def f26_cOf (R : f26_R) : FnC := fun X xs ns K => match xs, ns with
  | [(.sl false (some 2) x0)], [] => R X (fun u => K (f26_out u)) x0
  | _, _ => none
def f26_plan : Nat → Option (List Nat × List Wk)
  | 0 => some ([0], [])
  | 1 => some ([0], [])
  | 2 => some ([3], [])
  | 3 => some ([3], [])
  | _ => none
def f26_C (R_f42 : f42_R) (R_f43 : f43_R) : Fns := (orC 42 (f42_cOf R_f42) (orC 43 (f43_cOf R_f43) noC))
theorem f26_Cok (R_f42 : f42_R) (R_f43 : f43_R) (hR_f42 : AnsOk Try.prog 42 (f42_cOf R_f42)) (hR_f43 : AnsOk Try.prog 43 (f43_cOf R_f43)) : CsOk Try.prog (f26_C R_f42 R_f43) := (orC_ok hR_f42 (orC_ok hR_f43 noC_ok))
def f26_cx (R_f42 : f42_R) (R_f43 : f43_R) (hR_f42 : AnsOk Try.prog 42 (f42_cOf R_f42)) (hR_f43 : AnsOk Try.prog 43 (f43_cOf R_f43)) : Cx := mkCx (tabOf rows) (f26_C R_f42 R_f43) md (cmpIn cmps) f26_plan (f26_Cok R_f42 R_f43 hR_f42 hR_f43)
def f26_T {X : Type} (R_f42 : f42_R) (R_f43 : f43_R) (k : Nat) (K : Nat × (List CV) → Option X)  (x0 : List CV) : Option X :=
R_f42 _ (fun u1 =>
R_f43 _ (fun u2 =>
K ((List.length u1), (List.take (0 + (List.length u1)) u2))) ((List.length u1)) (u1)) (x0)
/-- "outpost/opt.byNum" -/
def f26_A (R_f42 : f42_R) (R_f43 : f43_R) (k : Nat) : f26_R := fun X K x0 => f26_T R_f42 R_f43 k K  x0
set_option maxRecDepth 100000 in
theorem f26_ev' {X : Type} (R_f42 : f42_R) (R_f43 : f43_R) (hR_f42 : AnsOk Try.prog 42 (f42_cOf R_f42)) (hR_f43 : AnsOk Try.prog 43 (f43_cOf R_f43)) (k : Nat) (K : Out → Option X) (x0 : List CV) : evFn (f26_cx R_f42 R_f43 hR_f42 hR_f43) [] k Try.f26.ntmps Try.f26.results.toList (Try.f26.body.getD .skip) [(.sl false (some 2) x0)] [] K = f26_T R_f42 R_f43 k (fun u => K (f26_out u)) x0 := by kernel_rfl
theorem f26_ev {X : Type} (R_f42 : f42_R) (R_f43 : f43_R) (hR_f42 : AnsOk Try.prog 42 (f42_cOf R_f42)) (hR_f43 : AnsOk Try.prog 43 (f43_cOf R_f43)) (k : Nat) (K : Out → Option X) (x0 : List CV) : evFn (f26_cx R_f42 R_f43 hR_f42 hR_f43) [] k Try.f26.ntmps Try.f26.results.toList (Try.f26.body.getD .skip) [(.sl false (some 2) x0)] [] K = f26_A R_f42 R_f43 k X (fun u => K (f26_out u)) x0 := (f26_ev' R_f42 R_f43 hR_f42 hR_f43 k K x0).trans rfl
theorem f26_okA (R_f42 : f42_R) (R_f43 : f43_R) (hR_f42 : AnsOk Try.prog 42 (f42_cOf R_f42)) (hR_f43 : AnsOk Try.prog 43 (f43_cOf R_f43)) (k : Nat) : AnsOk Try.prog 26 (f26_cOf (f26_A R_f42 R_f43 k)) := by
  intro X xs ns K x h
  unfold f26_cOf at h ⊢
  split at h
  · exact ans_main S (f26_Cok R_f42 R_f43 hR_f42 hR_f43) Try.func26 (ent_of Try.func26 (by kernel_rfl) rfl) rfl (fun X K => f26_ev R_f42 R_f43 hR_f42 hR_f43 k K _) h
  · cases h
/-- "outpost/opt.byNum" -/
def f26 {X : Type} (k : Nat) (K : Nat × (List CV) → Option X) (x0 : List CV) : Option X := f26_A (fun X => @f42 X k) (fun X => @f43 X k) k X K x0
theorem f26_ok (k : Nat) : AnsOk Try.prog 26 (f26_cOf (fun X => @f26 X k)) := f26_okA (fun X => @f42 X k) (fun X => @f43 X k) (f42_ok k) (f43_ok k) k
abbrev f27_R : Type 1 := (X : Type) → (Int × Nat × (List CV) → Option X) → Int → Option X
def f27_out (u : Int × Nat × (List CV)) : Out := ⟨(.tup [(.v (CV.int .i64 u.1)), (.osl [1, 2000] none 0 u.2.1)]), [([1, 2000], (.row false none u.2.2))]⟩
def f27_cOf (R : f27_R) : FnC := fun X xs ns K => match xs, ns with
  | [(.v (CV.int .i64 x0))], [] => R X (fun u => K (f27_out u)) x0
  | _, _ => none
def f27_plan : Nat → Option (List Nat × List Wk)
  | 0 => some ([0], [])
  | 1 => some ([0], [])
  | 2 => some ([0], [])
  | 3 => some ([0], [])
  | 4 => some ([0], [])
  | 5 => some ([0], [])
  | 6 => some ([0], [])
  | _ => none
def f27_C : Fns := noC
theorem f27_Cok : CsOk Try.prog (f27_C) := noC_ok
def f27_cx : Cx := mkCx (tabOf rows) (f27_C) md (cmpIn cmps) f27_plan (f27_Cok)
def f27_T {X : Type} (k : Nat) (K : Int × Nat × (List CV) → Option X)  (x0 : Int) : Option X :=
(bif (decide (x0 < 13)) then
K (x0, 0, (List.take 0 []))
else
(bif (decide (x0 < 269)) then
K (13, 1, (List.take 1 [(CV.int .u8 (IntKind.wrap .u8 (IntKind.wrap .i64 (x0 - 13))))]))
else
K (14, 2, (List.take 2 [(CV.int .u8 (IntKind.wrap .u8 (Int.fdiv (IntKind.wrap .i64 (x0 - 269)) (2 ^ 8)))), (CV.int .u8 (IntKind.wrap .u8 (IntKind.wrap .i64 (x0 - 269))))]))))
/-- "outpost/opt.nibble" -/
def f27_A (k : Nat) : f27_R := fun X K x0 => f27_T k K  x0
set_option maxRecDepth 100000 in
theorem f27_ev' {X : Type} (k : Nat) (K : Out → Option X) (x0 : Int) : evFn (f27_cx) [⟨0, [1], some [1, 2000]⟩] k Try.f27.ntmps Try.f27.results.toList (Try.f27.body.getD .skip) [(.v (CV.int .i64 x0))] [] K = f27_T k (fun u => K (f27_out u)) x0 := by kernel_rfl
theorem f27_ev {X : Type} (k : Nat) (K : Out → Option X) (x0 : Int) : evFn (f27_cx) [⟨0, [1], some [1, 2000]⟩] k Try.f27.ntmps Try.f27.results.toList (Try.f27.body.getD .skip) [(.v (CV.int .i64 x0))] [] K = f27_A k X (fun u => K (f27_out u)) x0 := (f27_ev' k K x0).trans rfl
theorem f27_okA (k : Nat) : AnsOk Try.prog 27 (f27_cOf (f27_A k)) := by
  intro X xs ns K x h
  unfold f27_cOf at h ⊢
  split at h
  · exact ans_main S (f27_Cok) Try.func27 (ent_of Try.func27 (by kernel_rfl) rfl) rfl (fun X K => f27_ev k K _) h
  · cases h
/-- "outpost/opt.nibble" -/
def f27 {X : Type} (k : Nat) (K : Int × Nat × (List CV) → Option X) (x0 : Int) : Option X := f27_A k X K x0
theorem f27_ok (k : Nat) : AnsOk Try.prog 27 (f27_cOf (fun X => @f27 X k)) := f27_okA k
abbrev f10_R : Type 1 := (X : Type) → (Nat × Int × (List CV) → Option X) → (List CV) → Option X
def f10_out (u : Nat × Int × (List CV)) : Out := ⟨(.tup [(.osl [0, 2000] none 0 u.1), (.v (CV.int .i64 u.2.1))]), [([0, 2000], (.row false none u.2.2))]⟩
def f10_cOf (R : f10_R) : FnC := fun X xs ns K => match xs, ns with
  | [(.sl false (some 2) x0)], [] => R X (fun u => K (f10_out u)) x0
  | _, _ => none
def f10_plan : Nat → Option (List Nat × List Wk)
  | 0 => some ([0], [])
  | 1 => some ([0], [])
  | 2 => some ([0, 4], [])
  | 3 => some ([4], [])
  | 4 => some ([0], [])
  | 5 => some ([0, 5], [])
  | 6 => some ([0, 5, 6], [])
  | 7 => some ([5, 6, 19, 20, 21], [⟨5, [], some [5]⟩])
  | 8 => some ([5, 6, 19, 20, 21], [])
  | 9 => some ([5, 6, 8, 19, 20, 21], [])
  | 10 => some ([5, 8, 9, 10, 19, 20, 21], [])
  | 11 => some ([5, 8, 9, 10, 11, 12, 19, 20, 21], [])
  | 12 => some ([5, 8, 10, 12, 19, 20, 21], [])
  | 13 => some ([5, 8, 12, 19, 20, 21], [])
  | 14 => some ([5, 8, 19, 20, 21], [])
  | 15 => some ([5, 8, 19, 20, 21], [])
  | 16 => some ([5, 6, 19, 20, 21], [])
  | 17 => some ([5], [])
  | _ => none
def f10_C (R_f25 : f25_R) (R_f26 : f26_R) (R_f27 : f27_R) : Fns := (orC 25 (f25_cOf R_f25) (orC 26 (f26_cOf R_f26) (orC 27 (f27_cOf R_f27) noC)))
theorem f10_Cok (R_f25 : f25_R) (R_f26 : f26_R) (R_f27 : f27_R) (hR_f25 : AnsOk Try.prog 25 (f25_cOf R_f25)) (hR_f26 : AnsOk Try.prog 26 (f26_cOf R_f26)) (hR_f27 : AnsOk Try.prog 27 (f27_cOf R_f27)) : CsOk Try.prog (f10_C R_f25 R_f26 R_f27) := (orC_ok hR_f25 (orC_ok hR_f26 (orC_ok hR_f27 noC_ok)))
def f10_cx (R_f25 : f25_R) (R_f26 : f26_R) (R_f27 : f27_R) (hR_f25 : AnsOk Try.prog 25 (f25_cOf R_f25)) (hR_f26 : AnsOk Try.prog 26 (f26_cOf R_f26)) (hR_f27 : AnsOk Try.prog 27 (f27_cOf R_f27)) : Cx := mkCx (tabOf rows) (f10_C R_f25 R_f26 R_f27) md (cmpIn cmps) f10_plan (f10_Cok R_f25 R_f26 R_f27 hR_f25 hR_f26 hR_f27)
def f10_S1 (v : Nat × Int × Nat × Int × Int × (List CV) × (List CV)) : St := ⟨[.undef, .undef, .undef, .undef, .undef, (.osl [5] none 0 v.1), (.v (CV.int .i64 v.2.1)), .undef, .undef, .undef, .undef, .undef, .undef, .undef, .undef, .undef, .undef, .undef, .undef, (.osl [19] (some 2) 0 v.2.2.1), (.v (CV.int .i64 v.2.2.2.1)), (.v (CV.int .i64 v.2.2.2.2.1)), .undef, .undef, .undef, .undef, .undef, .undef, .undef, .undef, .undef, .undef, .undef, .undef, .undef, .undef, .undef, .undef, .undef, .undef, .undef, .undef, .undef, .undef, .undef, .undef, .undef, .undef, .undef, .undef, .undef, .undef, .undef, .undef, .undef, .undef, .undef, .undef, .undef, .undef, .undef, .undef], [([5], (.row false none v.2.2.2.2.2.1)), ([19], (.row false (some 2) v.2.2.2.2.2.2))]⟩
def f10_T1 {X : Type} (R_f25 : f25_R) (R_f26 : f26_R) (R_f27 : f27_R) (k : Nat) (K : Nat × Int × (List CV) → Option X)   (rec1 : Nat × Int × Nat × Int × Int × (List CV) × (List CV) → Option X) (v7_3 : Nat × Int × Nat × Int × Int × (List CV) × (List CV)) : Option X :=
(bif (decide (v7_3.2.2.2.2.1 < v7_3.2.2.2.1)) then
grd (decide (0 ≤ v7_3.2.2.2.2.1)) <|
grd (decide (v7_3.2.2.2.2.1 < (Nat.cast (v7_3.2.2.1) : Int))) <|
Option.bind (v7_3.2.2.2.2.2.2)[(0 + (Int.toNat v7_3.2.2.2.2.1))]? fun e14 =>
grd (CV.isA 2 e14) <|
grd (CV.isI .i64 (CV.cellD 0 e14)) <|
grd (CV.isL none (CV.cellD 1 e14)) <|
R_f27 _ (fun u15 =>
R_f27 _ (fun u16 =>
grd (decide ((v7_3.1 + (List.length (List.take 1 (List.drop 0 [(CV.int .u8 (IntKind.wrap .u8 (bop .or .i64 (IntKind.wrap .i64 (u15.1 * 2 ^ 4)) u16.1)))])))) * 1 ≤ 140737488355328)) <|
grd (decide (((v7_3.1 + (List.length (List.take 1 (List.drop 0 [(CV.int .u8 (IntKind.wrap .u8 (bop .or .i64 (IntKind.wrap .i64 (u15.1 * 2 ^ 4)) u16.1)))])))) + (List.length (List.take u15.2.1 (List.drop 0 u15.2.2)))) * 1 ≤ 140737488355328)) <|
grd (decide ((((v7_3.1 + (List.length (List.take 1 (List.drop 0 [(CV.int .u8 (IntKind.wrap .u8 (bop .or .i64 (IntKind.wrap .i64 (u15.1 * 2 ^ 4)) u16.1)))])))) + (List.length (List.take u15.2.1 (List.drop 0 u15.2.2)))) + (List.length (List.take u16.2.1 (List.drop 0 u16.2.2)))) * 1 ≤ 140737488355328)) <|
grd (decide (((((v7_3.1 + (List.length (List.take 1 (List.drop 0 [(CV.int .u8 (IntKind.wrap .u8 (bop .or .i64 (IntKind.wrap .i64 (u15.1 * 2 ^ 4)) u16.1)))])))) + (List.length (List.take u15.2.1 (List.drop 0 u15.2.2)))) + (List.length (List.take u16.2.1 (List.drop 0 u16.2.2)))) + (List.length (CV.toL (CV.cellD 1 e14)))) * 1 ≤ 140737488355328)) <|
rec1 (((((v7_3.1 + (List.length (List.take 1 (List.drop 0 [(CV.int .u8 (IntKind.wrap .u8 (bop .or .i64 (IntKind.wrap .i64 (u15.1 * 2 ^ 4)) u16.1)))])))) + (List.length (List.take u15.2.1 (List.drop 0 u15.2.2)))) + (List.length (List.take u16.2.1 (List.drop 0 u16.2.2)))) + (List.length (CV.toL (CV.cellD 1 e14)))), (CV.toI (CV.cellD 0 e14)), v7_3.2.2.1, v7_3.2.2.2.1, (IntKind.wrap .i64 (v7_3.2.2.2.2.1 + 1)), ((List.take (((v7_3.1 + (List.length (List.take 1 (List.drop 0 [(CV.int .u8 (IntKind.wrap .u8 (bop .or .i64 (IntKind.wrap .i64 (u15.1 * 2 ^ 4)) u16.1)))])))) + (List.length (List.take u15.2.1 (List.drop 0 u15.2.2)))) + (List.length (List.take u16.2.1 (List.drop 0 u16.2.2)))) ((List.take ((v7_3.1 + (List.length (List.take 1 (List.drop 0 [(CV.int .u8 (IntKind.wrap .u8 (bop .or .i64 (IntKind.wrap .i64 (u15.1 * 2 ^ 4)) u16.1)))])))) + (List.length (List.take u15.2.1 (List.drop 0 u15.2.2)))) ((List.take (v7_3.1 + (List.length (List.take 1 (List.drop 0 [(CV.int .u8 (IntKind.wrap .u8 (bop .or .i64 (IntKind.wrap .i64 (u15.1 * 2 ^ 4)) u16.1)))])))) ((List.take v7_3.1 v7_3.2.2.2.2.2.1) ++ (List.take 1 (List.drop 0 [(CV.int .u8 (IntKind.wrap .u8 (bop .or .i64 (IntKind.wrap .i64 (u15.1 * 2 ^ 4)) u16.1)))])))) ++ (List.take u15.2.1 (List.drop 0 u15.2.2)))) ++ (List.take u16.2.1 (List.drop 0 u16.2.2)))) ++ (CV.toL (CV.cellD 1 e14))), v7_3.2.2.2.2.2.2)) ((Nat.cast ((List.length (CV.toL (CV.cellD 1 e14)))) : Int))) ((IntKind.wrap .i64 ((CV.toI (CV.cellD 0 e14)) - v7_3.2.1)))
else
K (v7_3.1, 0, (List.take (0 + v7_3.1) v7_3.2.2.2.2.2.1)))
def f10_L1 {X : Type} (R_f25 : f25_R) (R_f26 : f26_R) (R_f27 : f27_R) (k : Nat) (K : Nat × Int × (List CV) → Option X)  (rec1 : Nat × Int × Nat × Int × Int × (List CV) × (List CV) → Option X) (v : Nat × Int × Nat × Int × Int × (List CV) × (List CV)) : Option X := f10_T1 R_f25 R_f26 R_f27 k K   rec1 v
set_option maxRecDepth 100000 in
theorem f10_L1_ev {X : Type} (R_f25 : f25_R) (R_f26 : f26_R) (R_f27 : f27_R) (hR_f25 : AnsOk Try.prog 25 (f25_cOf R_f25)) (hR_f26 : AnsOk Try.prog 26 (f26_cOf R_f26)) (hR_f27 : AnsOk Try.prog 27 (f27_cOf R_f27)) (k : Nat) (K : Out → Option X)  (r1 : St → Option X) (v : Nat × Int × Nat × Int × Int × (List CV) × (List CV)) : loopB (f10_cx R_f25 R_f26 R_f27 hR_f25 hR_f26 hR_f27) k [.r, .r, .r, .r, .l, .r, .b] (Try.f10.body.getD .skip) (retK (f10_cx R_f25 R_f26 R_f27 hR_f25 hR_f26 hR_f27) [⟨0, [0], some [0, 2000]⟩] Try.f10.results.toList K) [] r1 (f10_S1 v) = f10_T1 R_f25 R_f26 R_f27 k (fun u => K (f10_out u))   (fun v => r1 (f10_S1 v)) v := by kernel_rfl
theorem f10_L1_it {X : Type} (R_f25 : f25_R) (R_f26 : f26_R) (R_f27 : f27_R) (hR_f25 : AnsOk Try.prog 25 (f25_cOf R_f25)) (hR_f26 : AnsOk Try.prog 26 (f26_cOf R_f26)) (hR_f27 : AnsOk Try.prog 27 (f27_cOf R_f27)) (k : Nat) (K : Out → Option X)  : (fun v => iter (loopB (f10_cx R_f25 R_f26 R_f27 hR_f25 hR_f26 hR_f27) k [.r, .r, .r, .r, .l, .r, .b] (Try.f10.body.getD .skip) (retK (f10_cx R_f25 R_f26 R_f27 hR_f25 hR_f26 hR_f27) [⟨0, [0], some [0, 2000]⟩] Try.f10.results.toList K) []) k (f10_S1 v)) = iterV (f10_L1 R_f25 R_f26 R_f27 k (fun u => K (f10_out u)) ) k :=
  iter_map (fun r1 v => (f10_L1_ev R_f25 R_f26 R_f27 hR_f25 hR_f26 hR_f27 k K  r1 v).trans rfl) k
def f10_T {X : Type} (R_f25 : f25_R) (R_f26 : f26_R) (R_f27 : f27_R) (k : Nat) (K : Nat × Int × (List CV) → Option X) (loop1 : Nat × Int × Nat × Int × Int × (List CV) × (List CV) → Option X) (x0 : List CV) : Option X :=
R_f25 _ (fun u2 =>
(bif (u2 != 0) then
K (0, u2, (List.take 0 []))
else
R_f26 _ (fun u3 =>
loop1 (0, 0, u3.1, (Nat.cast (u3.1) : Int), 0, [], u3.2)) (x0))) (x0)
/-- "outpost/opt.Write" -/
def f10_A (R_f25 : f25_R) (R_f26 : f26_R) (R_f27 : f27_R) (k : Nat) : f10_R := fun X K x0 => f10_T R_f25 R_f26 R_f27 k K (iterV (f10_L1 R_f25 R_f26 R_f27 k K) k) x0
set_option maxRecDepth 100000 in
theorem f10_ev' {X : Type} (R_f25 : f25_R) (R_f26 : f26_R) (R_f27 : f27_R) (hR_f25 : AnsOk Try.prog 25 (f25_cOf R_f25)) (hR_f26 : AnsOk Try.prog 26 (f26_cOf R_f26)) (hR_f27 : AnsOk Try.prog 27 (f27_cOf R_f27)) (k : Nat) (K : Out → Option X) (x0 : List CV) : evFn (f10_cx R_f25 R_f26 R_f27 hR_f25 hR_f26 hR_f27) [⟨0, [0], some [0, 2000]⟩] k Try.f10.ntmps Try.f10.results.toList (Try.f10.body.getD .skip) [(.sl false (some 2) x0)] [] K = f10_T R_f25 R_f26 R_f27 k (fun u => K (f10_out u)) (fun v => iter (loopB (f10_cx R_f25 R_f26 R_f27 hR_f25 hR_f26 hR_f27) k [.r, .r, .r, .r, .l, .r, .b] (Try.f10.body.getD .skip) (retK (f10_cx R_f25 R_f26 R_f27 hR_f25 hR_f26 hR_f27) [⟨0, [0], some [0, 2000]⟩] Try.f10.results.toList K) []) k (f10_S1 v)) x0 := by kernel_rfl
theorem f10_ev {X : Type} (R_f25 : f25_R) (R_f26 : f26_R) (R_f27 : f27_R) (hR_f25 : AnsOk Try.prog 25 (f25_cOf R_f25)) (hR_f26 : AnsOk Try.prog 26 (f26_cOf R_f26)) (hR_f27 : AnsOk Try.prog 27 (f27_cOf R_f27)) (k : Nat) (K : Out → Option X) (x0 : List CV) : evFn (f10_cx R_f25 R_f26 R_f27 hR_f25 hR_f26 hR_f27) [⟨0, [0], some [0, 2000]⟩] k Try.f10.ntmps Try.f10.results.toList (Try.f10.body.getD .skip) [(.sl false (some 2) x0)] [] K = f10_A R_f25 R_f26 R_f27 k X (fun u => K (f10_out u)) x0 := (f10_ev' R_f25 R_f26 R_f27 hR_f25 hR_f26 hR_f27 k K x0).trans (by rw [f10_L1_it R_f25 R_f26 R_f27 hR_f25 hR_f26 hR_f27 k K]; rfl)
theorem f10_okA (R_f25 : f25_R) (R_f26 : f26_R) (R_f27 : f27_R) (hR_f25 : AnsOk Try.prog 25 (f25_cOf R_f25)) (hR_f26 : AnsOk Try.prog 26 (f26_cOf R_f26)) (hR_f27 : AnsOk Try.prog 27 (f27_cOf R_f27)) (k : Nat) : AnsOk Try.prog 10 (f10_cOf (f10_A R_f25 R_f26 R_f27 k)) := by
  intro X xs ns K x h
  unfold f10_cOf at h ⊢
  split at h
  · exact ans_main S (f10_Cok R_f25 R_f26 R_f27 hR_f25 hR_f26 hR_f27) Try.func10 (ent_of Try.func10 (by kernel_rfl) rfl) rfl (fun X K => f10_ev R_f25 R_f26 R_f27 hR_f25 hR_f26 hR_f27 k K _) h
  · cases h
/-- "outpost/opt.Write" -/
def f10 {X : Type} (k : Nat) (K : Nat × Int × (List CV) → Option X) (x0 : List CV) : Option X := f10_A (fun X => @f25 X k) (fun X => @f26 X k) (fun X => @f27 X k) k X K x0
theorem f10_ok (k : Nat) : AnsOk Try.prog 10 (f10_cOf (fun X => @f10 X k)) := f10_okA (fun X => @f25 X k) (fun X => @f26 X k) (fun X => @f27 X k) (f25_ok k) (f26_ok k) (f27_ok k) k
end Go.Proofs.YtbinkbfjedoolaaD
