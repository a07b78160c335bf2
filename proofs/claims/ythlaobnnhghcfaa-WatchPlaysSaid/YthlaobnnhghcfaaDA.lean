/- Functions of the program, as plain Lean functions: each with the proof that the evaluator computes it. (Printed by wip/dec/dec.py.) -/
import Derived.Test.YthlaobnnhghcfaaTN
import Derived.Test.YthlaobnnhghcfaaTO
import Derived.Test.YthlaobnnhghcfaaTQ
import Derived.Test.YthlaobnnhghcfaaProg
import Derived.Test.YthlaobnnhghcfaaChecked
namespace Go.Proofs.YthlaobnnhghcfaaD
open Go Go.Proofs.YthlaobnnhghcfaaS Go.Proofs
set_option linter.unusedVariables false
def rows : List (Nat × TI) := [
  (2, ⟨(.int .i64), 1, 8, .v (.int .i64 0)⟩),
  (3, ⟨(.int .i64), 1, 8, .v (.int .i64 0)⟩),
  (4, ⟨.bool, 1, 1, .v (.bool false)⟩),
  (5, ⟨(.int .u8), 1, 1, .v (.int .u8 0)⟩),
  (9, ⟨.str, 1, 16, .v (.str ⟨#[]⟩)⟩),
  (23, ⟨(.struct [(0, 2), (1, 2), (2, 4), (3, 4), (4, 2), (5, 2), (6, 2), (7, 4), (8, 4), (9, 4)]), 10, 56, .v (.agg [(.int .i64 0), (.int .i64 0), (.bool false), (.bool false), (.int .i64 0), (.int .i64 0), (.int .i64 0), (.bool false), (.bool false), (.bool false)])⟩),
  (24, ⟨(.slice 2), 1, 24, .nil0 none⟩),
  (26, ⟨(.ptr 67), 1, 8, .v .nilp⟩),
  (28, ⟨(.int .i64), 1, 8, .v (.int .i64 0)⟩),
  (30, ⟨(.slice 5), 1, 24, .nil0 none⟩),
  (31, ⟨(.slice 3), 1, 24, .nil0 none⟩),
  (33, ⟨(.struct [(0, 3), (1, 2), (2, 9), (3, 30), (4, 3), (5, 3)]), 6, 72, .agg [.v (.int .i64 0), .v (.int .i64 0), .v (.str ⟨#[]⟩), .nil0 none, .v (.int .i64 0), .v (.int .i64 0)]⟩),
  (36, ⟨(.struct [(0, 3), (1, 30), (2, 31), (3, 23), (13, 33), (19, 2), (20, 3)]), 21, 200, .agg [.v (.int .i64 0), .nil0 none, .nil0 none, .v (.int .i64 0), .v (.int .i64 0), .v (.bool false), .v (.bool false), .v (.int .i64 0), .v (.int .i64 0), .v (.int .i64 0), .v (.bool false), .v (.bool false), .v (.bool false), .v (.int .i64 0), .v (.int .i64 0), .v (.str ⟨#[]⟩), .nil0 none, .v (.int .i64 0), .v (.int .i64 0), .v (.int .i64 0), .v (.int .i64 0)]⟩),
  (37, ⟨(.slice 36), 1, 24, .nil0 (some 21)⟩),
  (39, ⟨(.slice 33), 1, 24, .nil0 (some 6)⟩),
  (46, ⟨(.slice 50), 1, 24, .nil0 (some 24)⟩),
  (48, ⟨(.slice 53), 1, 24, .nil0 (some 21)⟩),
  (50, ⟨(.struct [(0, 3), (1, 36), (22, 39), (23, 2)]), 24, 240, .agg [.v (.int .i64 0), .v (.int .i64 0), .nil0 none, .nil0 none, .v (.int .i64 0), .v (.int .i64 0), .v (.bool false), .v (.bool false), .v (.int .i64 0), .v (.int .i64 0), .v (.int .i64 0), .v (.bool false), .v (.bool false), .v (.bool false), .v (.int .i64 0), .v (.int .i64 0), .v (.str ⟨#[]⟩), .nil0 none, .v (.int .i64 0), .v (.int .i64 0), .v (.int .i64 0), .v (.int .i64 0), .nil0 (some 6), .v (.int .i64 0)]⟩),
  (53, ⟨(.struct [(0, 3), (1, 30), (2, 31), (3, 23), (13, 33), (19, 2), (20, 3)]), 21, 200, .agg [.v (.int .i64 0), .nil0 none, .nil0 none, .v (.int .i64 0), .v (.int .i64 0), .v (.bool false), .v (.bool false), .v (.int .i64 0), .v (.int .i64 0), .v (.int .i64 0), .v (.bool false), .v (.bool false), .v (.bool false), .v (.int .i64 0), .v (.int .i64 0), .v (.str ⟨#[]⟩), .nil0 none, .v (.int .i64 0), .v (.int .i64 0), .v (.int .i64 0), .v (.int .i64 0)]⟩),
  (67, ⟨(.struct [(0, 37)]), 1, 24, .agg [.nil0 (some 21)]⟩),
  (72, ⟨(.ptr 36), 1, 8, .v .nilp⟩),
  (82, ⟨(.int .u64), 1, 8, .v (.int .u64 0)⟩)]
set_option maxRecDepth 100000 in
theorem rows_ok : rowsAre Try.prog rows = true := by kernel_rfl
def cmps : List Nat := [23]
theorem cmps_ok : cmpsAre Try.prog cmps = true := by kernel_rfl
def S : Seat Try.prog := ⟨rows, rows_ok, Try.checked.mixed, cmps, cmps_ok⟩
def md (g : FuncId) (i : Nat) : Nat := (bif Nat.beq g 51 && Nat.beq i 0 then 2 else (bif Nat.beq g 33 && Nat.beq i 2 then 1 else (bif Nat.beq g 31 && Nat.beq i 0 then 1 else (bif Nat.beq g 24 && Nat.beq i 2 then 1 else (bif Nat.beq g 22 && Nat.beq i 1 then 1 else (bif Nat.beq g 21 && Nat.beq i 2 then 1 else (bif Nat.beq g 19 && Nat.beq i 0 then 1 else (bif Nat.beq g 18 && Nat.beq i 1 then 1 else (bif Nat.beq g 18 && Nat.beq i 0 then 2 else (bif Nat.beq g 9 && Nat.beq i 1 then 1 else 0))))))))))
def setRun {X : Type} (e : CV) (j n : Nat) (cs : List CV) (K : CV → Option X) : Option X := match e with
  | .agg ds => grd (Nat.ble (j + n) ds.length) (K (.agg (putRun ds j cs)))
  | _ => none
def setCell {X : Type} (e : CV) (j : Nat) (c : CV) (K : CV → Option X) : Option X := match e with
  | .agg ds => grd (Nat.blt j ds.length) (K (.agg (ds.set j c)))
  | _ => none
abbrev f8_R : Type 1 := (X : Type) → ((List CV) → Option X) → Option X
def f8_out (u : (List CV)) : Out := ⟨(.ptr [2000] 0 0 0), [([2000], (.obj [(.osl [0, 2000] (some 21) 0 0)])), ([0, 2000], (.row false (some 21) u))]⟩
def f8_cOf (R : f8_R) : FnC := fun X xs ns K => match xs, ns with
  | [], [] => R X (fun u => K (f8_out u)) 
  | _, _ => none
def f8_plan : Nat → Option (List Nat × List Wk)
  | 0 => some ([], [])
  | 1 => some ([], [])
  | _ => none
def f8_C : Fns := noC
theorem f8_Cok : CsOk Try.prog (f8_C) := noC_ok
def f8_cx : Cx := mkCx (tabOf rows) (f8_C) md (cmpIn cmps) f8_plan (f8_Cok)
def f8_T {X : Type} (k : Nat) (K : (List CV) → Option X)   : Option X :=
K ((List.take 0 []))
/-- "outpost/watch.New" -/
def f8_A (k : Nat) : f8_R := fun X K  => f8_T k K  
set_option maxRecDepth 100000 in
theorem f8_ev' {X : Type} (k : Nat) (K : Out → Option X)  : evFn (f8_cx) [] k Try.f8.ntmps Try.f8.results.toList (Try.f8.body.getD .skip) [] [] K = f8_T k (fun u => K (f8_out u))  := by kernel_rfl
theorem f8_ev {X : Type} (k : Nat) (K : Out → Option X)  : evFn (f8_cx) [] k Try.f8.ntmps Try.f8.results.toList (Try.f8.body.getD .skip) [] [] K = f8_A k X (fun u => K (f8_out u))  := (f8_ev' k K ).trans rfl
theorem f8_okA (k : Nat) : AnsOk Try.prog 8 (f8_cOf (f8_A k)) := by
  intro X xs ns K x h
  unfold f8_cOf at h ⊢
  split at h
  · exact ans_main S (f8_Cok) Try.func8 (ent_of Try.func8 (by kernel_rfl) rfl) rfl (fun X K => f8_ev k K ) h
  · cases h
/-- "outpost/watch.New" -/
def f8 {X : Type} (k : Nat) (K : (List CV) → Option X)  : Option X := f8_A k X K 
theorem f8_ok (k : Nat) : AnsOk Try.prog 8 (f8_cOf (fun X => @f8 X k)) := f8_okA k
abbrev f10_R : Type 1 := (X : Type) → (Int × (List CV) → Option X) → Int → Option X
def f10_out (u : Int × (List CV)) : Out := ⟨(.agg [(.v (CV.int .i64 1)), (.v (CV.int .i64 u.1)), (.v (CV.str ⟨#[]⟩)), (.osl [3, 2000] none 0 0), (.v (CV.int .i64 0)), (.v (CV.int .i64 0))]), [([3, 2000], (.row false none u.2))]⟩
def f10_cOf (R : f10_R) : FnC := fun X xs ns K => match xs, ns with
  | [(.v (CV.int .i64 x0))], [] => R X (fun u => K (f10_out u)) x0
  | _, _ => none
def f10_plan : Nat → Option (List Nat × List Wk)
  | 0 => some ([0], [])
  | 1 => some ([0, 2], [])
  | _ => none
def f10_C : Fns := noC
theorem f10_Cok : CsOk Try.prog (f10_C) := noC_ok
def f10_cx : Cx := mkCx (tabOf rows) (f10_C) md (cmpIn cmps) f10_plan (f10_Cok)
def f10_T {X : Type} (k : Nat) (K : Int × (List CV) → Option X)  (x0 : Int) : Option X :=
K (x0, (List.take 0 []))
/-- "outpost/outpostlaw21.num" -/
def f10_A (k : Nat) : f10_R := fun X K x0 => f10_T k K  x0
set_option maxRecDepth 100000 in
theorem f10_ev' {X : Type} (k : Nat) (K : Out → Option X) (x0 : Int) : evFn (f10_cx) [] k Try.f10.ntmps Try.f10.results.toList (Try.f10.body.getD .skip) [(.v (CV.int .i64 x0))] [] K = f10_T k (fun u => K (f10_out u)) x0 := by kernel_rfl
theorem f10_ev {X : Type} (k : Nat) (K : Out → Option X) (x0 : Int) : evFn (f10_cx) [] k Try.f10.ntmps Try.f10.results.toList (Try.f10.body.getD .skip) [(.v (CV.int .i64 x0))] [] K = f10_A k X (fun u => K (f10_out u)) x0 := (f10_ev' k K x0).trans rfl
theorem f10_okA (k : Nat) : AnsOk Try.prog 10 (f10_cOf (f10_A k)) := by
  intro X xs ns K x h
  unfold f10_cOf at h ⊢
  split at h
  · exact ans_main S (f10_Cok) Try.func10 (ent_of Try.func10 (by kernel_rfl) rfl) rfl (fun X K => f10_ev k K _) h
  · cases h
/-- "outpost/outpostlaw21.num" -/
def f10 {X : Type} (k : Nat) (K : Int × (List CV) → Option X) (x0 : Int) : Option X := f10_A k X K x0
theorem f10_ok (k : Nat) : AnsOk Try.prog 10 (f10_cOf (fun X => @f10 X k)) := f10_okA k
abbrev f30_R : Type 1 := (X : Type) → (Bool → Option X) → (List CV) → Option X
def f30_out (u : Bool) : Out := ⟨(.v (CV.bool u)), []⟩
def f30_cOf (R : f30_R) : FnC := fun X xs ns K => match xs, ns with
  | [(.sl false none x0)], [] => R X (fun u => K (f30_out u)) x0
  | _, _ => none
def f30_plan : Nat → Option (List Nat × List Wk)
  | 0 => some ([0], [])
  | 1 => some ([0], [])
  | 2 => some ([0, 5, 6, 7], [])
  | 3 => some ([0, 5, 6, 7], [])
  | 4 => some ([0, 4, 5, 6, 7], [])
  | 5 => some ([], [])
  | 6 => some ([0, 5, 6, 7], [])
  | 7 => some ([0], [])
  | _ => none
def f30_C : Fns := noC
theorem f30_Cok : CsOk Try.prog (f30_C) := noC_ok
def f30_cx : Cx := mkCx (tabOf rows) (f30_C) md (cmpIn cmps) f30_plan (f30_Cok)
def f30_S1 (v : (List CV) × (List CV) × Int × Int) : St := ⟨[(.sl false none v.1), .undef, .undef, .undef, .undef, (.sl false none v.2.1), (.v (CV.int .i64 v.2.2.1)), (.v (CV.int .i64 v.2.2.2)), .undef, .undef, .undef, .undef, .undef, .undef, .undef, .undef, .undef, .undef, .undef, .undef, .undef], []⟩
def f30_T1 {X : Type} (k : Nat) (K : Bool → Option X)   (rec1 : (List CV) × (List CV) × Int × Int → Option X) (v4_0 : (List CV) × (List CV) × Int × Int) : Option X :=
(bif (decide (v4_0.2.2.2 < v4_0.2.2.1)) then
grd (decide (0 ≤ v4_0.2.2.2)) <|
Option.bind (v4_0.2.1)[(Int.toNat v4_0.2.2.2)]? fun e5 =>
grd (CV.isI .i64 e5) <|
(bif (decide ((CV.toI e5) < 0)) then
K (false)
else
(bif (decide ((CV.toI e5) > 65535)) then
K (false)
else
rec1 (v4_0.1, v4_0.2.1, v4_0.2.2.1, (IntKind.wrap .i64 (v4_0.2.2.2 + 1)))))
else
K ((decide ((Nat.cast ((List.length v4_0.1)) : Int) ≤ 3))))
def f30_L1 {X : Type} (k : Nat) (K : Bool → Option X)  (rec1 : (List CV) × (List CV) × Int × Int → Option X) (v : (List CV) × (List CV) × Int × Int) : Option X := f30_T1 k K   rec1 v
set_option maxRecDepth 100000 in
theorem f30_L1_ev {X : Type} (k : Nat) (K : Out → Option X)  (r1 : St → Option X) (v : (List CV) × (List CV) × Int × Int) : loopB (f30_cx) k [.r, .l, .r, .b] (Try.f30.body.getD .skip) (retK (f30_cx) [] Try.f30.results.toList K) [] r1 (f30_S1 v) = f30_T1 k (fun u => K (f30_out u))   (fun v => r1 (f30_S1 v)) v := by kernel_rfl
theorem f30_L1_it {X : Type} (k : Nat) (K : Out → Option X)  : (fun v => iter (loopB (f30_cx) k [.r, .l, .r, .b] (Try.f30.body.getD .skip) (retK (f30_cx) [] Try.f30.results.toList K) []) k (f30_S1 v)) = iterV (f30_L1 k (fun u => K (f30_out u)) ) k :=
  iter_map (fun r1 v => (f30_L1_ev k K  r1 v).trans rfl) k
def f30_T {X : Type} (k : Nat) (K : Bool → Option X) (loop1 : (List CV) × (List CV) × Int × Int → Option X) (x0 : List CV) : Option X :=
loop1 (x0, x0, (Nat.cast ((List.length x0)) : Int), 0)
/-- "outpost/path.Right" -/
def f30_A (k : Nat) : f30_R := fun X K x0 => f30_T k K (iterV (f30_L1 k K) k) x0
set_option maxRecDepth 100000 in
theorem f30_ev' {X : Type} (k : Nat) (K : Out → Option X) (x0 : List CV) : evFn (f30_cx) [] k Try.f30.ntmps Try.f30.results.toList (Try.f30.body.getD .skip) [(.sl false none x0)] [] K = f30_T k (fun u => K (f30_out u)) (fun v => iter (loopB (f30_cx) k [.r, .l, .r, .b] (Try.f30.body.getD .skip) (retK (f30_cx) [] Try.f30.results.toList K) []) k (f30_S1 v)) x0 := by kernel_rfl
theorem f30_ev {X : Type} (k : Nat) (K : Out → Option X) (x0 : List CV) : evFn (f30_cx) [] k Try.f30.ntmps Try.f30.results.toList (Try.f30.body.getD .skip) [(.sl false none x0)] [] K = f30_A k X (fun u => K (f30_out u)) x0 := (f30_ev' k K x0).trans (by rw [f30_L1_it k K]; rfl)
theorem f30_okA (k : Nat) : AnsOk Try.prog 30 (f30_cOf (f30_A k)) := by
  intro X xs ns K x h
  unfold f30_cOf at h ⊢
  split at h
  · exact ans_main S (f30_Cok) Try.func30 (ent_of Try.func30 (by kernel_rfl) rfl) rfl (fun X K => f30_ev k K _) h
  · cases h
/-- "outpost/path.Right" -/
def f30 {X : Type} (k : Nat) (K : Bool → Option X) (x0 : List CV) : Option X := f30_A k X K x0
theorem f30_ok (k : Nat) : AnsOk Try.prog 30 (f30_cOf (fun X => @f30 X k)) := f30_okA k
def f35_plan : Nat → Option (List Nat × List Wk)
  | 0 => some ([0], [])
  | 1 => some ([0], [])
  | 2 => some ([], [])
  | 3 => some ([0], [])
  | _ => none
def f35_cx : Cx := mkCx (tabOf rows) noC md (cmpIn cmps) f35_plan (noC_ok (P := Try.prog))
/-- "slices.Clone[[]byte,byte]" -/
def f35 {X : Type} (k : Nat) (K : List CV → Option X) (x0 : List CV) : Option X := grd (decide ((0 + List.length x0) * 1 ≤ 140737488355328)) (K x0)
def f35_out (u : List CV) : Out := ⟨.osl [2000] none 0 (List.length u), [([2000], .row false none u)]⟩
set_option maxRecDepth 100000 in
theorem f35_fn (x0 : List CV) (hl : (decide ((0 + List.length x0) * 1 ≤ 140737488355328)) = true) : FnOk Try.prog 35 [.sl false none x0] [] (f35_out x0) := by
  refine nilsplit (cx := f35_cx) (xs := x0) (p := false) (sh := none) (fuel := 1) (ws := [⟨0, [], some [2000]⟩]) (tabOf_tabOk S.hr) (tabOf_noOther S.hr) (CsOk.fns (noC_ok (P := Try.prog)) (cmpsAre_ok cmps_ok)) S.hm Try.func35 rfl rfl Try.underlying30 (s1 := ⟨[(.sl false none x0), .undef, (.nil0 none), .undef, .undef, .undef, .undef, .undef], []⟩) (s2 := ⟨[(.sl false none x0), .undef, .undef, .undef, .undef, .undef, .undef, .undef], []⟩) (s3 := ⟨[(.sl false none x0), .undef, .undef, (.sl false none x0), .undef, .undef, .undef, .undef], []⟩) ?_ ?_ ?_ rfl ?_ (fun h => ?_) ⟨rfl, rfl⟩
  · kernel_rfl
  · kernel_rfl
  · kernel_rfl
  · refine Eq.trans (b := grd (decide ((0 + List.length x0) * 1 ≤ 140737488355328)) (some ⟨.osl [2000] none 0 (0 + List.length x0), [([2000], .row false none (List.take (0 + (0 + List.length x0)) (List.take 0 [] ++ x0)))]⟩)) (by kernel_rfl) ?_
    rw [hl]
    simp [grd, f35_out]
  · subst h
    kernel_rfl
abbrev f35_R : Type 1 := (X : Type) → (List CV → Option X) → List CV → Option X
def f35_cOf (R : f35_R) : FnC := fun X xs ns K => match xs, ns with
  | [.sl false none x0], [] => R X (fun u => K (f35_out u)) x0
  | _, _ => none
theorem f35_ok (k : Nat) : AnsOk Try.prog 35 (f35_cOf (fun X => @f35 X k)) := by
  intro X xs ns K x h
  unfold f35_cOf at h ⊢
  split at h
  · next x0 =>
    obtain ⟨h1, h2⟩ := grd_some (show grd (decide ((0 + List.length x0) * 1 ≤ 140737488355328)) (K (f35_out x0)) = some x from h)
    exact ⟨trivial, _, (f35_fn x0 h1).toX (ent_of Try.func35 (by kernel_rfl) rfl), h2, fun Y K' => by show grd _ _ = _; rw [h1]; rfl⟩
  · cases h
def f47_plan : Nat → Option (List Nat × List Wk)
  | 0 => some ([0], [])
  | 1 => some ([0], [])
  | 2 => some ([], [])
  | 3 => some ([0], [])
  | _ => none
def f47_cx : Cx := mkCx (tabOf rows) noC md (cmpIn cmps) f47_plan (noC_ok (P := Try.prog))
/-- "slices.Clone[[]int,int]" -/
def f47 {X : Type} (k : Nat) (K : List CV → Option X) (x0 : List CV) : Option X := grd (decide ((0 + List.length x0) * 8 ≤ 140737488355328)) (K x0)
def f47_out (u : List CV) : Out := ⟨.osl [2000] none 0 (List.length u), [([2000], .row false none u)]⟩
set_option maxRecDepth 100000 in
theorem f47_fn (x0 : List CV) (hl : (decide ((0 + List.length x0) * 8 ≤ 140737488355328)) = true) : FnOk Try.prog 47 [.sl false none x0] [] (f47_out x0) := by
  refine nilsplit (cx := f47_cx) (xs := x0) (p := false) (sh := none) (fuel := 1) (ws := [⟨0, [], some [2000]⟩]) (tabOf_tabOk S.hr) (tabOf_noOther S.hr) (CsOk.fns (noC_ok (P := Try.prog)) (cmpsAre_ok cmps_ok)) S.hm Try.func47 rfl rfl Try.underlying31 (s1 := ⟨[(.sl false none x0), .undef, (.nil0 none), .undef, .undef, .undef, .undef, .undef], []⟩) (s2 := ⟨[(.sl false none x0), .undef, .undef, .undef, .undef, .undef, .undef, .undef], []⟩) (s3 := ⟨[(.sl false none x0), .undef, .undef, (.sl false none x0), .undef, .undef, .undef, .undef], []⟩) ?_ ?_ ?_ rfl ?_ (fun h => ?_) ⟨rfl, rfl⟩
  · kernel_rfl
  · kernel_rfl
  · kernel_rfl
  · refine Eq.trans (b := grd (decide ((0 + List.length x0) * 8 ≤ 140737488355328)) (some ⟨.osl [2000] none 0 (0 + List.length x0), [([2000], .row false none (List.take (0 + (0 + List.length x0)) (List.take 0 [] ++ x0)))]⟩)) (by kernel_rfl) ?_
    rw [hl]
    simp [grd, f47_out]
  · subst h
    kernel_rfl
abbrev f47_R : Type 1 := (X : Type) → (List CV → Option X) → List CV → Option X
def f47_cOf (R : f47_R) : FnC := fun X xs ns K => match xs, ns with
  | [.sl false none x0], [] => R X (fun u => K (f47_out u)) x0
  | _, _ => none
theorem f47_ok (k : Nat) : AnsOk Try.prog 47 (f47_cOf (fun X => @f47 X k)) := by
  intro X xs ns K x h
  unfold f47_cOf at h ⊢
  split at h
  · next x0 =>
    obtain ⟨h1, h2⟩ := grd_some (show grd (decide ((0 + List.length x0) * 8 ≤ 140737488355328)) (K (f47_out x0)) = some x from h)
    exact ⟨trivial, _, (f47_fn x0 h1).toX (ent_of Try.func47 (by kernel_rfl) rfl), h2, fun Y K' => by show grd _ _ = _; rw [h1]; rfl⟩
  · cases h
abbrev f31_R : Type 1 := (X : Type) → (Int × Nat × Nat × Int × Int × Bool × Bool × Int × Int × Int × Bool × Bool × Bool × Int × Int × ByteArray × Nat × Int × Int × Int × Int × (List CV) × (List CV) × (List CV) → Option X) → CV → Option X
def f31_out (u : Int × Nat × Nat × Int × Int × Bool × Bool × Int × Int × Int × Bool × Bool × Bool × Int × Int × ByteArray × Nat × Int × Int × Int × Int × (List CV) × (List CV) × (List CV)) : Out := ⟨(.agg [(.v (CV.int .i64 u.1)), (.osl [1, 2000] none 0 u.2.1), (.osl [2, 2000] none 0 u.2.2.1), (.v (CV.int .i64 u.2.2.2.1)), (.v (CV.int .i64 u.2.2.2.2.1)), (.v (CV.bool u.2.2.2.2.2.1)), (.v (CV.bool u.2.2.2.2.2.2.1)), (.v (CV.int .i64 u.2.2.2.2.2.2.2.1)), (.v (CV.int .i64 u.2.2.2.2.2.2.2.2.1)), (.v (CV.int .i64 u.2.2.2.2.2.2.2.2.2.1)), (.v (CV.bool u.2.2.2.2.2.2.2.2.2.2.1)), (.v (CV.bool u.2.2.2.2.2.2.2.2.2.2.2.1)), (.v (CV.bool u.2.2.2.2.2.2.2.2.2.2.2.2.1)), (.v (CV.int .i64 u.2.2.2.2.2.2.2.2.2.2.2.2.2.1)), (.v (CV.int .i64 u.2.2.2.2.2.2.2.2.2.2.2.2.2.2.1)), (.v (CV.str u.2.2.2.2.2.2.2.2.2.2.2.2.2.2.2.1)), (.osl [16, 2000] none 0 u.2.2.2.2.2.2.2.2.2.2.2.2.2.2.2.2.1), (.v (CV.int .i64 u.2.2.2.2.2.2.2.2.2.2.2.2.2.2.2.2.2.1)), (.v (CV.int .i64 u.2.2.2.2.2.2.2.2.2.2.2.2.2.2.2.2.2.2.1)), (.v (CV.int .i64 u.2.2.2.2.2.2.2.2.2.2.2.2.2.2.2.2.2.2.2.1)), (.v (CV.int .i64 u.2.2.2.2.2.2.2.2.2.2.2.2.2.2.2.2.2.2.2.2.1))]), [([1, 2000], (.row false none u.2.2.2.2.2.2.2.2.2.2.2.2.2.2.2.2.2.2.2.2.2.1)), ([2, 2000], (.row false none u.2.2.2.2.2.2.2.2.2.2.2.2.2.2.2.2.2.2.2.2.2.2.1)), ([16, 2000], (.row false none u.2.2.2.2.2.2.2.2.2.2.2.2.2.2.2.2.2.2.2.2.2.2.2))]⟩
def f31_cOf (R : f31_R) : FnC := fun X xs ns K => match xs, ns with
  | [(.v x0)], [] => R X (fun u => K (f31_out u)) x0
  | _, _ => none
def f31_plan : Nat → Option (List Nat × List Wk)
  | 0 => some ([0], [])
  | 1 => some ([1, 2], [])
  | 2 => some ([1, 2], [])
  | _ => none
def f31_C (R_f35 : f35_R) (R_f47 : f47_R) : Fns := (orC 35 (f35_cOf R_f35) (orC 47 (f47_cOf R_f47) noC))
theorem f31_Cok (R_f35 : f35_R) (R_f47 : f47_R) (hR_f35 : AnsOk Try.prog 35 (f35_cOf R_f35)) (hR_f47 : AnsOk Try.prog 47 (f47_cOf R_f47)) : CsOk Try.prog (f31_C R_f35 R_f47) := (orC_ok hR_f35 (orC_ok hR_f47 noC_ok))
def f31_cx (R_f35 : f35_R) (R_f47 : f47_R) (hR_f35 : AnsOk Try.prog 35 (f35_cOf R_f35)) (hR_f47 : AnsOk Try.prog 47 (f47_cOf R_f47)) : Cx := mkCx (tabOf rows) (f31_C R_f35 R_f47) md (cmpIn cmps) f31_plan (f31_Cok R_f35 R_f47 hR_f35 hR_f47)
def f31_T {X : Type} (R_f35 : f35_R) (R_f47 : f47_R) (k : Nat) (K : Int × Nat × Nat × Int × Int × Bool × Bool × Int × Int × Int × Bool × Bool × Bool × Int × Int × ByteArray × Nat × Int × Int × Int × Int × (List CV) × (List CV) × (List CV) → Option X)  (x0 : CV) : Option X :=
grd (CV.isA 21 x0) <|
grd (CV.isI .i64 (CV.cellD 0 x0)) <|
grd (CV.isL none (CV.cellD 1 x0)) <|
grd (CV.isL none (CV.cellD 2 x0)) <|
grd (CV.isI .i64 (CV.cellD 3 x0)) <|
grd (CV.isI .i64 (CV.cellD 4 x0)) <|
grd (CV.isB (CV.cellD 5 x0)) <|
grd (CV.isB (CV.cellD 6 x0)) <|
grd (CV.isI .i64 (CV.cellD 7 x0)) <|
grd (CV.isI .i64 (CV.cellD 8 x0)) <|
grd (CV.isI .i64 (CV.cellD 9 x0)) <|
grd (CV.isB (CV.cellD 10 x0)) <|
grd (CV.isB (CV.cellD 11 x0)) <|
grd (CV.isB (CV.cellD 12 x0)) <|
grd (CV.isI .i64 (CV.cellD 13 x0)) <|
grd (CV.isI .i64 (CV.cellD 14 x0)) <|
grd (CV.isS (CV.cellD 15 x0)) <|
grd (CV.isL none (CV.cellD 16 x0)) <|
grd (CV.isI .i64 (CV.cellD 17 x0)) <|
grd (CV.isI .i64 (CV.cellD 18 x0)) <|
grd (CV.isI .i64 (CV.cellD 19 x0)) <|
grd (CV.isI .i64 (CV.cellD 20 x0)) <|
R_f35 _ (fun u1 =>
R_f47 _ (fun u2 =>
R_f35 _ (fun u3 =>
K ((CV.toI (CV.cellD 0 x0)), (List.length u1), (List.length u2), (CV.toI (CV.cellD 3 x0)), (CV.toI (CV.cellD 4 x0)), (CV.toB (CV.cellD 5 x0)), (CV.toB (CV.cellD 6 x0)), (CV.toI (CV.cellD 7 x0)), (CV.toI (CV.cellD 8 x0)), (CV.toI (CV.cellD 9 x0)), (CV.toB (CV.cellD 10 x0)), (CV.toB (CV.cellD 11 x0)), (CV.toB (CV.cellD 12 x0)), (CV.toI (CV.cellD 13 x0)), (CV.toI (CV.cellD 14 x0)), (CV.toS (CV.cellD 15 x0)), (List.length u3), (CV.toI (CV.cellD 17 x0)), (CV.toI (CV.cellD 18 x0)), (CV.toI (CV.cellD 19 x0)), (CV.toI (CV.cellD 20 x0)), (List.take (0 + (List.length u1)) u1), (List.take (0 + (List.length u2)) u2), (List.take (0 + (List.length u3)) u3))) ((CV.toL (CV.cellD 16 x0)))) ((CV.toL (CV.cellD 2 x0)))) ((CV.toL (CV.cellD 1 x0)))
/-- "outpost/watch.copied" -/
def f31_A (R_f35 : f35_R) (R_f47 : f47_R) (k : Nat) : f31_R := fun X K x0 => f31_T R_f35 R_f47 k K  x0
set_option maxRecDepth 100000 in
theorem f31_ev' {X : Type} (R_f35 : f35_R) (R_f47 : f47_R) (hR_f35 : AnsOk Try.prog 35 (f35_cOf R_f35)) (hR_f47 : AnsOk Try.prog 47 (f47_cOf R_f47)) (k : Nat) (K : Out → Option X) (x0 : CV) : evFn (f31_cx R_f35 R_f47 hR_f35 hR_f47) [] k Try.f31.ntmps Try.f31.results.toList (Try.f31.body.getD .skip) [(.v x0)] [] K = f31_T R_f35 R_f47 k (fun u => K (f31_out u)) x0 := by kernel_rfl
theorem f31_ev {X : Type} (R_f35 : f35_R) (R_f47 : f47_R) (hR_f35 : AnsOk Try.prog 35 (f35_cOf R_f35)) (hR_f47 : AnsOk Try.prog 47 (f47_cOf R_f47)) (k : Nat) (K : Out → Option X) (x0 : CV) : evFn (f31_cx R_f35 R_f47 hR_f35 hR_f47) [] k Try.f31.ntmps Try.f31.results.toList (Try.f31.body.getD .skip) [(.v x0)] [] K = f31_A R_f35 R_f47 k X (fun u => K (f31_out u)) x0 := (f31_ev' R_f35 R_f47 hR_f35 hR_f47 k K x0).trans rfl
theorem f31_okA (R_f35 : f35_R) (R_f47 : f47_R) (hR_f35 : AnsOk Try.prog 35 (f35_cOf R_f35)) (hR_f47 : AnsOk Try.prog 47 (f47_cOf R_f47)) (k : Nat) : AnsOk Try.prog 31 (f31_cOf (f31_A R_f35 R_f47 k)) := by
  intro X xs ns K x h
  unfold f31_cOf at h ⊢
  split at h
  · exact ans_main S (f31_Cok R_f35 R_f47 hR_f35 hR_f47) Try.func31 (ent_of Try.func31 (by kernel_rfl) rfl) rfl (fun X K => f31_ev R_f35 R_f47 hR_f35 hR_f47 k K _) h
  · cases h
/-- "outpost/watch.copied" -/
def f31 {X : Type} (k : Nat) (K : Int × Nat × Nat × Int × Int × Bool × Bool × Int × Int × Int × Bool × Bool × Bool × Int × Int × ByteArray × Nat × Int × Int × Int × Int × (List CV) × (List CV) × (List CV) → Option X) (x0 : CV) : Option X := f31_A (fun X => @f35 X k) (fun X => @f47 X k) k X K x0
theorem f31_ok (k : Nat) : AnsOk Try.prog 31 (f31_cOf (fun X => @f31 X k)) := f31_okA (fun X => @f35 X k) (fun X => @f47 X k) (f35_ok k) (f47_ok k) k
abbrev f32_R : Type 1 := (X : Type) → (Int → Option X) → Int → Option X
def f32_out (u : Int) : Out := ⟨(.v (CV.int .i64 u)), []⟩
def f32_cOf (R : f32_R) : FnC := fun X xs ns K => match xs, ns with
  | [(.v (CV.int .i64 x0))], [] => R X (fun u => K (f32_out u)) x0
  | _, _ => none
def f32_plan : Nat → Option (List Nat × List Wk)
  | 0 => some ([0], [])
  | 1 => some ([0], [])
  | _ => none
def f32_C : Fns := noC
theorem f32_Cok : CsOk Try.prog (f32_C) := noC_ok
def f32_cx : Cx := mkCx (tabOf rows) (f32_C) md (cmpIn cmps) f32_plan (f32_Cok)
def f32_T {X : Type} (k : Nat) (K : Int → Option X)  (x0 : Int) : Option X :=
K ((if 1099511627776 < (if 0 > x0 then 0 else x0) then 1099511627776 else (if 0 > x0 then 0 else x0)))
/-- "outpost/watch.clock" -/
def f32_A (k : Nat) : f32_R := fun X K x0 => f32_T k K  x0
set_option maxRecDepth 100000 in
theorem f32_ev' {X : Type} (k : Nat) (K : Out → Option X) (x0 : Int) : evFn (f32_cx) [] k Try.f32.ntmps Try.f32.results.toList (Try.f32.body.getD .skip) [(.v (CV.int .i64 x0))] [] K = f32_T k (fun u => K (f32_out u)) x0 := by kernel_rfl
theorem f32_ev {X : Type} (k : Nat) (K : Out → Option X) (x0 : Int) : evFn (f32_cx) [] k Try.f32.ntmps Try.f32.results.toList (Try.f32.body.getD .skip) [(.v (CV.int .i64 x0))] [] K = f32_A k X (fun u => K (f32_out u)) x0 := (f32_ev' k K x0).trans rfl
theorem f32_okA (k : Nat) : AnsOk Try.prog 32 (f32_cOf (f32_A k)) := by
  intro X xs ns K x h
  unfold f32_cOf at h ⊢
  split at h
  · exact ans_main S (f32_Cok) Try.func32 (ent_of Try.func32 (by kernel_rfl) rfl) rfl (fun X K => f32_ev k K _) h
  · cases h
/-- "outpost/watch.clock" -/
def f32 {X : Type} (k : Nat) (K : Int → Option X) (x0 : Int) : Option X := f32_A k X K x0
theorem f32_ok (k : Nat) : AnsOk Try.prog 32 (f32_cOf (fun X => @f32 X k)) := f32_okA k
abbrev f42_R : Type 1 := (X : Type) → (Bool → Option X) → (List CV) → (List CV) → Option X
def f42_out (u : Bool) : Out := ⟨(.v (CV.bool u)), []⟩
def f42_cOf (R : f42_R) : FnC := fun X xs ns K => match xs, ns with
  | [(.sl false none x0), (.sl false none x1)], [] => R X (fun u => K (f42_out u)) x0 x1
  | _, _ => none
def f42_plan : Nat → Option (List Nat × List Wk)
  | 0 => some ([0, 1], [])
  | 1 => some ([0, 1], [])
  | _ => none
def f42_C : Fns := noC
theorem f42_Cok : CsOk Try.prog (f42_C) := noC_ok
def f42_cx : Cx := mkCx (tabOf rows) (f42_C) md (cmpIn cmps) f42_plan (f42_Cok)
def f42_T {X : Type} (k : Nat) (K : Bool → Option X)  (x0 : List CV) (x1 : List CV) : Option X :=
grd (shEq none none && List.all x0 (CV.isI .u8)) <|
grd (shEq none none && List.all x1 (CV.isI .u8)) <|
K (((bytesOf x0).toList == (bytesOf x1).toList))
/-- "bytes.Equal" -/
def f42_A (k : Nat) : f42_R := fun X K x0 x1 => f42_T k K  x0 x1
set_option maxRecDepth 100000 in
theorem f42_ev' {X : Type} (k : Nat) (K : Out → Option X) (x0 : List CV) (x1 : List CV) : evFn (f42_cx) [] k Try.f42.ntmps Try.f42.results.toList (Try.f42.body.getD .skip) [(.sl false none x0), (.sl false none x1)] [] K = f42_T k (fun u => K (f42_out u)) x0 x1 := by kernel_rfl
theorem f42_ev {X : Type} (k : Nat) (K : Out → Option X) (x0 : List CV) (x1 : List CV) : evFn (f42_cx) [] k Try.f42.ntmps Try.f42.results.toList (Try.f42.body.getD .skip) [(.sl false none x0), (.sl false none x1)] [] K = f42_A k X (fun u => K (f42_out u)) x0 x1 := (f42_ev' k K x0 x1).trans rfl
theorem f42_okA (k : Nat) : AnsOk Try.prog 42 (f42_cOf (f42_A k)) := by
  intro X xs ns K x h
  unfold f42_cOf at h ⊢
  split at h
  · exact ans_main S (f42_Cok) Try.func42 (ent_of Try.func42 (by kernel_rfl) rfl) rfl (fun X K => f42_ev k K _ _) h
  · cases h
/-- "bytes.Equal" -/
def f42 {X : Type} (k : Nat) (K : Bool → Option X) (x0 : List CV) (x1 : List CV) : Option X := f42_A k X K x0 x1
theorem f42_ok (k : Nat) : AnsOk Try.prog 42 (f42_cOf (fun X => @f42 X k)) := f42_okA k
abbrev f49_R : Type 1 := (X : Type) → (Bool → Option X) → CV → Int → (List CV) → Option X
def f49_out (u : Bool) : Out := ⟨(.v (CV.bool u)), []⟩
def f49_cOf (R : f49_R) : FnC := fun X xs ns K => match xs, ns with
  | [(.v x0), (.bptr none (CV.int .i64 x1) 0), (.bptr none (CV.slc none x2) 0)], [] => R X (fun u => K (f49_out u)) x0 x1 x2
  | _, _ => none
def f49_plan : Nat → Option (List Nat × List Wk)
  | 0 => some ([0, 1, 2], [])
  | 1 => some ([1, 2, 3], [])
  | _ => none
def f49_C (R_f42 : f42_R) : Fns := (orC 42 (f42_cOf R_f42) noC)
theorem f49_Cok (R_f42 : f42_R) (hR_f42 : AnsOk Try.prog 42 (f42_cOf R_f42)) : CsOk Try.prog (f49_C R_f42) := (orC_ok hR_f42 noC_ok)
def f49_cx (R_f42 : f42_R) (hR_f42 : AnsOk Try.prog 42 (f42_cOf R_f42)) : Cx := mkCx (tabOf rows) (f49_C R_f42) md (cmpIn cmps) f49_plan (f49_Cok R_f42 hR_f42)
def f49_T {X : Type} (R_f42 : f42_R) (k : Nat) (K : Bool → Option X)  (x0 : CV) (x1 : Int) (x2 : List CV) : Option X :=
grd (CV.isA 21 x0) <|
grd (CV.isI .i64 (CV.cellD 0 x0)) <|
grd (CV.isL none (CV.cellD 1 x0)) <|
grd (CV.isL none (CV.cellD 2 x0)) <|
grd (CV.isI .i64 (CV.cellD 3 x0)) <|
grd (CV.isI .i64 (CV.cellD 4 x0)) <|
grd (CV.isB (CV.cellD 5 x0)) <|
grd (CV.isB (CV.cellD 6 x0)) <|
grd (CV.isI .i64 (CV.cellD 7 x0)) <|
grd (CV.isI .i64 (CV.cellD 8 x0)) <|
grd (CV.isI .i64 (CV.cellD 9 x0)) <|
grd (CV.isB (CV.cellD 10 x0)) <|
grd (CV.isB (CV.cellD 11 x0)) <|
grd (CV.isB (CV.cellD 12 x0)) <|
grd (CV.isI .i64 (CV.cellD 13 x0)) <|
grd (CV.isI .i64 (CV.cellD 14 x0)) <|
grd (CV.isS (CV.cellD 15 x0)) <|
grd (CV.isL none (CV.cellD 16 x0)) <|
grd (CV.isI .i64 (CV.cellD 17 x0)) <|
grd (CV.isI .i64 (CV.cellD 18 x0)) <|
grd (CV.isI .i64 (CV.cellD 19 x0)) <|
grd (CV.isI .i64 (CV.cellD 20 x0)) <|
(bif ((CV.toI (CV.cellD 0 x0)) == x1) then
R_f42 _ (fun u1 =>
K (u1)) ((CV.toL (CV.cellD 1 x0))) (x2)
else
K (false))
/-- "(*outpost/watch.Table).index$1" -/
def f49_A (R_f42 : f42_R) (k : Nat) : f49_R := fun X K x0 x1 x2 => f49_T R_f42 k K  x0 x1 x2
set_option maxRecDepth 100000 in
theorem f49_ev' {X : Type} (R_f42 : f42_R) (hR_f42 : AnsOk Try.prog 42 (f42_cOf R_f42)) (k : Nat) (K : Out → Option X) (x0 : CV) (x1 : Int) (x2 : List CV) : evFn (f49_cx R_f42 hR_f42) [] k Try.f49.ntmps Try.f49.results.toList (Try.f49.body.getD .skip) [(.v x0), (.bptr none (CV.int .i64 x1) 0), (.bptr none (CV.slc none x2) 0)] [] K = f49_T R_f42 k (fun u => K (f49_out u)) x0 x1 x2 := by kernel_rfl
theorem f49_ev {X : Type} (R_f42 : f42_R) (hR_f42 : AnsOk Try.prog 42 (f42_cOf R_f42)) (k : Nat) (K : Out → Option X) (x0 : CV) (x1 : Int) (x2 : List CV) : evFn (f49_cx R_f42 hR_f42) [] k Try.f49.ntmps Try.f49.results.toList (Try.f49.body.getD .skip) [(.v x0), (.bptr none (CV.int .i64 x1) 0), (.bptr none (CV.slc none x2) 0)] [] K = f49_A R_f42 k X (fun u => K (f49_out u)) x0 x1 x2 := (f49_ev' R_f42 hR_f42 k K x0 x1 x2).trans rfl
theorem f49_okA (R_f42 : f42_R) (hR_f42 : AnsOk Try.prog 42 (f42_cOf R_f42)) (k : Nat) : AnsOk Try.prog 49 (f49_cOf (f49_A R_f42 k)) := by
  intro X xs ns K x h
  unfold f49_cOf at h ⊢
  split at h
  · exact ans_main S (f49_Cok R_f42 hR_f42) Try.func49 (ent_of Try.func49 (by kernel_rfl) rfl) rfl (fun X K => f49_ev R_f42 hR_f42 k K _ _ _) h
  · cases h
/-- "(*outpost/watch.Table).index$1" -/
def f49 {X : Type} (k : Nat) (K : Bool → Option X) (x0 : CV) (x1 : Int) (x2 : List CV) : Option X := f49_A (fun X => @f42 X k) k X K x0 x1 x2
theorem f49_ok (k : Nat) : AnsOk Try.prog 49 (f49_cOf (fun X => @f49 X k)) := f49_okA (fun X => @f42 X k) (f42_ok k) k
abbrev f48_R : Type 1 := (X : Type) → (Int → Option X) → (List CV) → Int → (List CV) → Option X
def f48_out (u : Int) : Out := ⟨(.v (CV.int .i64 u)), []⟩
def f48_cOf (R : f48_R) : FnC := fun X xs ns K => match xs, ns with
  | [(.sl false (some 21) x0), (.fn 49 [(.bptr none (CV.int .i64 x1) 0), (.bptr none (CV.slc none x2) 0)])], [] => R X (fun u => K (f48_out u)) x0 x1 x2
  | _, _ => none
def f48_is (xs : List AVal) (ns : Nodes) : Bool := match xs, ns with
  | [(.sl false (some 21) x0), (.fn 49 [(.bptr none (CV.int .i64 x1) 0), (.bptr none (CV.slc none x2) 0)])], [] => true
  | _, _ => false
def f48_plan : Nat → Option (List Nat × List Wk)
  | 0 => some ([0, 1], [])
  | 1 => some ([0, 1], [])
  | 2 => some ([0, 1, 7, 8], [])
  | 3 => some ([0, 1, 7, 8], [])
  | 4 => some ([0, 1, 5, 7, 8], [])
  | 5 => some ([5], [])
  | 6 => some ([0, 1, 7, 8], [])
  | 7 => some ([], [])
  | _ => none
def f48_C (R_f49 : f49_R) : Fns := (orC 49 (f49_cOf R_f49) noC)
theorem f48_Cok (R_f49 : f49_R) (hR_f49 : AnsOk Try.prog 49 (f49_cOf R_f49)) : CsOk Try.prog (f48_C R_f49) := (orC_ok hR_f49 noC_ok)
def f48_cx (R_f49 : f49_R) (hR_f49 : AnsOk Try.prog 49 (f49_cOf R_f49)) : Cx := mkCx (tabOf rows) (f48_C R_f49) md (cmpIn cmps) f48_plan (f48_Cok R_f49 hR_f49)
def f48_S1 (v : (List CV) × Int × (List CV) × Int × Int) : St := ⟨[(.sl false (some 21) v.1), (.fn 49 [(.bptr none (CV.int .i64 v.2.1) 0), (.bptr none (CV.slc none v.2.2.1) 0)]), .undef, .undef, .undef, .undef, .undef, (.v (CV.int .i64 v.2.2.2.1)), (.v (CV.int .i64 v.2.2.2.2)), .undef, .undef, .undef, .undef, .undef, .undef, .undef, .undef, .undef, .undef], []⟩
def f48_T1 {X : Type} (R_f49 : f49_R) (k : Nat) (K : Int → Option X)   (rec1 : (List CV) × Int × (List CV) × Int × Int → Option X) (v4_0 : (List CV) × Int × (List CV) × Int × Int) : Option X :=
(bif (decide (v4_0.2.2.2.2 < v4_0.2.2.2.1)) then
grd (decide (0 ≤ v4_0.2.2.2.2)) <|
Option.bind (v4_0.1)[(Int.toNat v4_0.2.2.2.2)]? fun e8 =>
R_f49 _ (fun u9 =>
(bif u9 then
K (v4_0.2.2.2.2)
else
rec1 (v4_0.1, v4_0.2.1, v4_0.2.2.1, v4_0.2.2.2.1, (IntKind.wrap .i64 (v4_0.2.2.2.2 + 1))))) (e8) (v4_0.2.1) (v4_0.2.2.1)
else
K ((-1)))
def f48_L1 {X : Type} (R_f49 : f49_R) (k : Nat) (K : Int → Option X)  (rec1 : (List CV) × Int × (List CV) × Int × Int → Option X) (v : (List CV) × Int × (List CV) × Int × Int) : Option X := f48_T1 R_f49 k K   rec1 v
set_option maxRecDepth 100000 in
theorem f48_L1_ev {X : Type} (R_f49 : f49_R) (hR_f49 : AnsOk Try.prog 49 (f49_cOf R_f49)) (k : Nat) (K : Out → Option X)  (r1 : St → Option X) (v : (List CV) × Int × (List CV) × Int × Int) : loopB (f48_cx R_f49 hR_f49) k [.r, .l, .r, .b] (Try.f48.body.getD .skip) (retK (f48_cx R_f49 hR_f49) [] Try.f48.results.toList K) [] r1 (f48_S1 v) = f48_T1 R_f49 k (fun u => K (f48_out u))   (fun v => r1 (f48_S1 v)) v := by kernel_rfl
theorem f48_L1_it {X : Type} (R_f49 : f49_R) (hR_f49 : AnsOk Try.prog 49 (f49_cOf R_f49)) (k : Nat) (K : Out → Option X)  : (fun v => iter (loopB (f48_cx R_f49 hR_f49) k [.r, .l, .r, .b] (Try.f48.body.getD .skip) (retK (f48_cx R_f49 hR_f49) [] Try.f48.results.toList K) []) k (f48_S1 v)) = iterV (f48_L1 R_f49 k (fun u => K (f48_out u)) ) k :=
  iter_map (fun r1 v => (f48_L1_ev R_f49 hR_f49 k K  r1 v).trans rfl) k
def f48_T {X : Type} (R_f49 : f49_R) (k : Nat) (K : Int → Option X) (loop1 : (List CV) × Int × (List CV) × Int × Int → Option X) (x0 : List CV) (x1 : Int) (x2 : List CV) : Option X :=
loop1 (x0, x1, x2, (Nat.cast ((List.length x0)) : Int), 0)
/-- "slices.IndexFunc[[]outpost/watch.Watch,outpost/watch.Watch]" -/
def f48_A (R_f49 : f49_R) (k : Nat) : f48_R := fun X K x0 x1 x2 => f48_T R_f49 k K (iterV (f48_L1 R_f49 k K) k) x0 x1 x2
set_option maxRecDepth 100000 in
theorem f48_ev' {X : Type} (R_f49 : f49_R) (hR_f49 : AnsOk Try.prog 49 (f49_cOf R_f49)) (k : Nat) (K : Out → Option X) (x0 : List CV) (x1 : Int) (x2 : List CV) : evFn (f48_cx R_f49 hR_f49) [] k Try.f48.ntmps Try.f48.results.toList (Try.f48.body.getD .skip) [(.sl false (some 21) x0), (.fn 49 [(.bptr none (CV.int .i64 x1) 0), (.bptr none (CV.slc none x2) 0)])] [] K = f48_T R_f49 k (fun u => K (f48_out u)) (fun v => iter (loopB (f48_cx R_f49 hR_f49) k [.r, .l, .r, .b] (Try.f48.body.getD .skip) (retK (f48_cx R_f49 hR_f49) [] Try.f48.results.toList K) []) k (f48_S1 v)) x0 x1 x2 := by kernel_rfl
theorem f48_ev {X : Type} (R_f49 : f49_R) (hR_f49 : AnsOk Try.prog 49 (f49_cOf R_f49)) (k : Nat) (K : Out → Option X) (x0 : List CV) (x1 : Int) (x2 : List CV) : evFn (f48_cx R_f49 hR_f49) [] k Try.f48.ntmps Try.f48.results.toList (Try.f48.body.getD .skip) [(.sl false (some 21) x0), (.fn 49 [(.bptr none (CV.int .i64 x1) 0), (.bptr none (CV.slc none x2) 0)])] [] K = f48_A R_f49 k X (fun u => K (f48_out u)) x0 x1 x2 := (f48_ev' R_f49 hR_f49 k K x0 x1 x2).trans (by rw [f48_L1_it R_f49 hR_f49 k K]; rfl)
theorem f48_okA (R_f49 : f49_R) (hR_f49 : AnsOk Try.prog 49 (f49_cOf R_f49)) (k : Nat) : AnsOk Try.prog 48 (f48_cOf (f48_A R_f49 k)) := by
  intro X xs ns K x h
  unfold f48_cOf at h ⊢
  split at h
  · exact ans_main S (f48_Cok R_f49 hR_f49) Try.func48 (ent_of Try.func48 (by kernel_rfl) rfl) rfl (fun X K => f48_ev R_f49 hR_f49 k K _ _ _) h
  · cases h
/-- "slices.IndexFunc[[]outpost/watch.Watch,outpost/watch.Watch]" -/
def f48 {X : Type} (k : Nat) (K : Int → Option X) (x0 : List CV) (x1 : Int) (x2 : List CV) : Option X := f48_A (fun X => @f49 X k) k X K x0 x1 x2
theorem f48_ok (k : Nat) : AnsOk Try.prog 48 (f48_cOf (fun X => @f48 X k)) := f48_okA (fun X => @f49 X k) (f49_ok k) k
abbrev f33_R : Type 1 := (X : Type) → (Int × Nat × (List CV) → Option X) → Int → (List CV) → Nat → (List CV) → Option X
def f33_out (u : Int × Nat × (List CV)) : Out := ⟨(.v (CV.int .i64 u.1)), [([1000], (.obj [(.osl [0, 1000] (some 21) 0 u.2.1)])), ([0, 1000], (.row false (some 21) u.2.2))]⟩
def f33_cOf (R : f33_R) : FnC := fun X xs ns K => match xs, ns with
  | [(.ptr [1000] 0 0 0), (.v (CV.int .i64 x0)), (.sl true none x1)], [([1000], (.obj [(.osl [0, 1000] (some 21) 0 x2)])), ([0, 1000], (.row false (some 21) x3))] => R X (fun u => K (f33_out u)) x0 x1 x2 x3
  | _, _ => none
def f33_plan : Nat → Option (List Nat × List Wk)
  | 0 => some ([0, 1, 2], [])
  | 1 => some ([0, 4, 5], [])
  | _ => none
def f33_C (R_f48 : f48_R) : Fns := (orC 48 (f48_cOf R_f48) noC)
theorem f33_Cok (R_f48 : f48_R) (hR_f48 : AnsOk Try.prog 48 (f48_cOf R_f48)) : CsOk Try.prog (f33_C R_f48) := (orC_ok hR_f48 noC_ok)
def f33_cx (R_f48 : f48_R) (hR_f48 : AnsOk Try.prog 48 (f48_cOf R_f48)) : Cx := mkCx (tabOf rows) (f33_C R_f48) md (cmpIn cmps) f33_plan (f33_Cok R_f48 hR_f48)
def f33_T {X : Type} (R_f48 : f48_R) (k : Nat) (K : Int × Nat × (List CV) → Option X)  (x0 : Int) (x1 : List CV) (x2 : Nat) (x3 : List CV) : Option X :=
R_f48 _ (fun u1 =>
K (u1, x2, (List.take (0 + x2) x3))) ((List.take x2 (List.drop 0 x3))) (x0) (x1)
/-- "(*outpost/watch.Table).index" -/
def f33_A (R_f48 : f48_R) (k : Nat) : f33_R := fun X K x0 x1 x2 x3 => f33_T R_f48 k K  x0 x1 x2 x3
set_option maxRecDepth 100000 in
theorem f33_ev' {X : Type} (R_f48 : f48_R) (hR_f48 : AnsOk Try.prog 48 (f48_cOf R_f48)) (k : Nat) (K : Out → Option X) (x0 : Int) (x1 : List CV) (x2 : Nat) (x3 : List CV) : evFn (f33_cx R_f48 hR_f48) [] k Try.f33.ntmps Try.f33.results.toList (Try.f33.body.getD .skip) [(.ptr [1000] 0 0 0), (.v (CV.int .i64 x0)), (.sl true none x1)] [([1000], (.obj [(.osl [0, 1000] (some 21) 0 x2)])), ([0, 1000], (.row false (some 21) x3))] K = f33_T R_f48 k (fun u => K (f33_out u)) x0 x1 x2 x3 := by kernel_rfl
theorem f33_ev {X : Type} (R_f48 : f48_R) (hR_f48 : AnsOk Try.prog 48 (f48_cOf R_f48)) (k : Nat) (K : Out → Option X) (x0 : Int) (x1 : List CV) (x2 : Nat) (x3 : List CV) : evFn (f33_cx R_f48 hR_f48) [] k Try.f33.ntmps Try.f33.results.toList (Try.f33.body.getD .skip) [(.ptr [1000] 0 0 0), (.v (CV.int .i64 x0)), (.sl true none x1)] [([1000], (.obj [(.osl [0, 1000] (some 21) 0 x2)])), ([0, 1000], (.row false (some 21) x3))] K = f33_A R_f48 k X (fun u => K (f33_out u)) x0 x1 x2 x3 := (f33_ev' R_f48 hR_f48 k K x0 x1 x2 x3).trans rfl
theorem f33_okA (R_f48 : f48_R) (hR_f48 : AnsOk Try.prog 48 (f48_cOf R_f48)) (k : Nat) : AnsOk Try.prog 33 (f33_cOf (f33_A R_f48 k)) := by
  intro X xs ns K x h
  unfold f33_cOf at h ⊢
  split at h
  · exact ans_main S (f33_Cok R_f48 hR_f48) Try.func33 (ent_of Try.func33 (by kernel_rfl) rfl) rfl (fun X K => f33_ev R_f48 hR_f48 k K _ _ _ _) h
  · cases h
/-- "(*outpost/watch.Table).index" -/
def f33 {X : Type} (k : Nat) (K : Int × Nat × (List CV) → Option X) (x0 : Int) (x1 : List CV) (x2 : Nat) (x3 : List CV) : Option X := f33_A (fun X => @f48 X k) k X K x0 x1 x2 x3
theorem f33_ok (k : Nat) : AnsOk Try.prog 33 (f33_cOf (fun X => @f33 X k)) := f33_okA (fun X => @f48 X k) (f48_ok k) k
abbrev f9_R : Type 1 := (X : Type) → (Int × Nat × (List CV) → Option X) → CV → Nat → (List CV) → Option X
def f9_out (u : Int × Nat × (List CV)) : Out := ⟨(.v (CV.int .i64 u.1)), [([1000], (.obj [(.osl [0, 1000] (some 21) 0 u.2.1)])), ([0, 1000], (.row false (some 21) u.2.2))]⟩
def f9_cOf (R : f9_R) : FnC := fun X xs ns K => match xs, ns with
  | [(.ptr [1000] 0 0 0), (.v x0)], [([1000], (.obj [(.osl [0, 1000] (some 21) 0 x1)])), ([0, 1000], (.row false (some 21) x2))] => R X (fun u => K (f9_out u)) x0 x1 x2
  | _, _ => none
def f9_plan : Nat → Option (List Nat × List Wk)
  | 0 => some ([0, 1], [])
  | 1 => some ([0, 3], [])
  | 2 => some ([], [])
  | 3 => some ([0, 3], [])
  | 4 => some ([0, 3], [])
  | 5 => some ([0, 3], [])
  | 6 => some ([0, 3, 5], [])
  | 7 => some ([0, 3, 5], [])
  | 8 => some ([], [])
  | 9 => some ([0, 3], [])
  | 10 => some ([], [])
  | 11 => some ([0, 3], [])
  | 12 => some ([], [])
  | _ => none
def f9_C (R_f30 : f30_R) (R_f31 : f31_R) (R_f32 : f32_R) (R_f33 : f33_R) : Fns := (orC 30 (f30_cOf R_f30) (orC 31 (f31_cOf R_f31) (orC 32 (f32_cOf R_f32) (orC 33 (f33_cOf R_f33) noC))))
theorem f9_Cok (R_f30 : f30_R) (R_f31 : f31_R) (R_f32 : f32_R) (R_f33 : f33_R) (hR_f30 : AnsOk Try.prog 30 (f30_cOf R_f30)) (hR_f31 : AnsOk Try.prog 31 (f31_cOf R_f31)) (hR_f32 : AnsOk Try.prog 32 (f32_cOf R_f32)) (hR_f33 : AnsOk Try.prog 33 (f33_cOf R_f33)) : CsOk Try.prog (f9_C R_f30 R_f31 R_f32 R_f33) := (orC_ok hR_f30 (orC_ok hR_f31 (orC_ok hR_f32 (orC_ok hR_f33 noC_ok))))
def f9_cx (R_f30 : f30_R) (R_f31 : f31_R) (R_f32 : f32_R) (R_f33 : f33_R) (hR_f30 : AnsOk Try.prog 30 (f30_cOf R_f30)) (hR_f31 : AnsOk Try.prog 31 (f31_cOf R_f31)) (hR_f32 : AnsOk Try.prog 32 (f32_cOf R_f32)) (hR_f33 : AnsOk Try.prog 33 (f33_cOf R_f33)) : Cx := mkCx (tabOf rows) (f9_C R_f30 R_f31 R_f32 R_f33) md (cmpIn cmps) f9_plan (f9_Cok R_f30 R_f31 R_f32 R_f33 hR_f30 hR_f31 hR_f32 hR_f33)
def f9_T {X : Type} (R_f30 : f30_R) (R_f31 : f31_R) (R_f32 : f32_R) (R_f33 : f33_R) (k : Nat) (K : Int × Nat × (List CV) → Option X)  (x0 : CV) (x1 : Nat) (x2 : List CV) : Option X :=
grd (CV.isA 21 x0) <|
grd (CV.isI .i64 (CV.cellD 0 x0)) <|
grd (CV.isL none (CV.cellD 1 x0)) <|
grd (CV.isL none (CV.cellD 2 x0)) <|
grd (CV.isI .i64 (CV.cellD 3 x0)) <|
grd (CV.isI .i64 (CV.cellD 4 x0)) <|
grd (CV.isB (CV.cellD 5 x0)) <|
grd (CV.isB (CV.cellD 6 x0)) <|
grd (CV.isI .i64 (CV.cellD 7 x0)) <|
grd (CV.isI .i64 (CV.cellD 8 x0)) <|
grd (CV.isI .i64 (CV.cellD 9 x0)) <|
grd (CV.isB (CV.cellD 10 x0)) <|
grd (CV.isB (CV.cellD 11 x0)) <|
grd (CV.isB (CV.cellD 12 x0)) <|
grd (CV.isI .i64 (CV.cellD 13 x0)) <|
grd (CV.isI .i64 (CV.cellD 14 x0)) <|
grd (CV.isS (CV.cellD 15 x0)) <|
grd (CV.isL none (CV.cellD 16 x0)) <|
grd (CV.isI .i64 (CV.cellD 17 x0)) <|
grd (CV.isI .i64 (CV.cellD 18 x0)) <|
grd (CV.isI .i64 (CV.cellD 19 x0)) <|
grd (CV.isI .i64 (CV.cellD 20 x0)) <|
(bif (decide ((Nat.cast ((List.length (CV.toL (CV.cellD 1 x0)))) : Int) > 8)) then
K (1, x1, (List.take (0 + x1) x2))
else
R_f30 _ (fun u2 =>
(bif (!u2) then
K (1, x1, (List.take (0 + x1) x2))
else
R_f31 _ (fun u3 =>
R_f32 _ (fun u4 =>
R_f33 _ (fun u6 =>
(bif (decide (u6.1 ≥ 0)) then
grd (decide (0 ≤ u6.1)) <|
grd (decide (u6.1 < (Nat.cast (u6.2.1) : Int))) <|
grd (decide ((0 + (Int.toNat u6.1)) < (List.length u6.2.2))) <|
K (0, u6.2.1, (List.take (0 + u6.2.1) (List.set u6.2.2 (0 + (Int.toNat u6.1)) (CV.agg [(CV.int .i64 u3.1), (CV.slc none (List.take u3.2.1 (List.drop 0 u3.2.2.2.2.2.2.2.2.2.2.2.2.2.2.2.2.2.2.2.2.2.1))), (CV.slc none (List.take u3.2.2.1 (List.drop 0 u3.2.2.2.2.2.2.2.2.2.2.2.2.2.2.2.2.2.2.2.2.2.2.1))), (CV.int .i64 u3.2.2.2.1), (CV.int .i64 u3.2.2.2.2.1), (CV.bool u3.2.2.2.2.2.1), (CV.bool u3.2.2.2.2.2.2.1), (CV.int .i64 u3.2.2.2.2.2.2.2.1), (CV.int .i64 u3.2.2.2.2.2.2.2.2.1), (CV.int .i64 u3.2.2.2.2.2.2.2.2.2.1), (CV.bool u3.2.2.2.2.2.2.2.2.2.2.1), (CV.bool u3.2.2.2.2.2.2.2.2.2.2.2.1), (CV.bool u3.2.2.2.2.2.2.2.2.2.2.2.2.1), (CV.int .i64 u3.2.2.2.2.2.2.2.2.2.2.2.2.2.1), (CV.int .i64 u3.2.2.2.2.2.2.2.2.2.2.2.2.2.2.1), (CV.str u3.2.2.2.2.2.2.2.2.2.2.2.2.2.2.2.1), (CV.slc none (List.take u3.2.2.2.2.2.2.2.2.2.2.2.2.2.2.2.2.1 (List.drop 0 u3.2.2.2.2.2.2.2.2.2.2.2.2.2.2.2.2.2.2.2.2.2.2.2))), (CV.int .i64 u3.2.2.2.2.2.2.2.2.2.2.2.2.2.2.2.2.2.1), (CV.int .i64 u3.2.2.2.2.2.2.2.2.2.2.2.2.2.2.2.2.2.2.1), (CV.int .i64 u4), (CV.int .i64 0)]))))
else
(bif (decide ((Nat.cast (u6.2.1) : Int) ≥ 6)) then
K (6, u6.2.1, (List.take (0 + u6.2.1) u6.2.2))
else
grd (decide ((u6.2.1 + (List.length (List.take 1 (List.drop 0 [(CV.agg [(CV.int .i64 u3.1), (CV.slc none (List.take u3.2.1 (List.drop 0 u3.2.2.2.2.2.2.2.2.2.2.2.2.2.2.2.2.2.2.2.2.2.1))), (CV.slc none (List.take u3.2.2.1 (List.drop 0 u3.2.2.2.2.2.2.2.2.2.2.2.2.2.2.2.2.2.2.2.2.2.2.1))), (CV.int .i64 u3.2.2.2.1), (CV.int .i64 u3.2.2.2.2.1), (CV.bool u3.2.2.2.2.2.1), (CV.bool u3.2.2.2.2.2.2.1), (CV.int .i64 u3.2.2.2.2.2.2.2.1), (CV.int .i64 u3.2.2.2.2.2.2.2.2.1), (CV.int .i64 u3.2.2.2.2.2.2.2.2.2.1), (CV.bool u3.2.2.2.2.2.2.2.2.2.2.1), (CV.bool u3.2.2.2.2.2.2.2.2.2.2.2.1), (CV.bool u3.2.2.2.2.2.2.2.2.2.2.2.2.1), (CV.int .i64 u3.2.2.2.2.2.2.2.2.2.2.2.2.2.1), (CV.int .i64 u3.2.2.2.2.2.2.2.2.2.2.2.2.2.2.1), (CV.str u3.2.2.2.2.2.2.2.2.2.2.2.2.2.2.2.1), (CV.slc none (List.take u3.2.2.2.2.2.2.2.2.2.2.2.2.2.2.2.2.1 (List.drop 0 u3.2.2.2.2.2.2.2.2.2.2.2.2.2.2.2.2.2.2.2.2.2.2.2))), (CV.int .i64 u3.2.2.2.2.2.2.2.2.2.2.2.2.2.2.2.2.2.1), (CV.int .i64 u3.2.2.2.2.2.2.2.2.2.2.2.2.2.2.2.2.2.2.1), (CV.int .i64 u4), (CV.int .i64 0)])])))) * 200 ≤ 140737488355328)) <|
K (0, (u6.2.1 + (List.length (List.take 1 (List.drop 0 [(CV.agg [(CV.int .i64 u3.1), (CV.slc none (List.take u3.2.1 (List.drop 0 u3.2.2.2.2.2.2.2.2.2.2.2.2.2.2.2.2.2.2.2.2.2.1))), (CV.slc none (List.take u3.2.2.1 (List.drop 0 u3.2.2.2.2.2.2.2.2.2.2.2.2.2.2.2.2.2.2.2.2.2.2.1))), (CV.int .i64 u3.2.2.2.1), (CV.int .i64 u3.2.2.2.2.1), (CV.bool u3.2.2.2.2.2.1), (CV.bool u3.2.2.2.2.2.2.1), (CV.int .i64 u3.2.2.2.2.2.2.2.1), (CV.int .i64 u3.2.2.2.2.2.2.2.2.1), (CV.int .i64 u3.2.2.2.2.2.2.2.2.2.1), (CV.bool u3.2.2.2.2.2.2.2.2.2.2.1), (CV.bool u3.2.2.2.2.2.2.2.2.2.2.2.1), (CV.bool u3.2.2.2.2.2.2.2.2.2.2.2.2.1), (CV.int .i64 u3.2.2.2.2.2.2.2.2.2.2.2.2.2.1), (CV.int .i64 u3.2.2.2.2.2.2.2.2.2.2.2.2.2.2.1), (CV.str u3.2.2.2.2.2.2.2.2.2.2.2.2.2.2.2.1), (CV.slc none (List.take u3.2.2.2.2.2.2.2.2.2.2.2.2.2.2.2.2.1 (List.drop 0 u3.2.2.2.2.2.2.2.2.2.2.2.2.2.2.2.2.2.2.2.2.2.2.2))), (CV.int .i64 u3.2.2.2.2.2.2.2.2.2.2.2.2.2.2.2.2.2.1), (CV.int .i64 u3.2.2.2.2.2.2.2.2.2.2.2.2.2.2.2.2.2.2.1), (CV.int .i64 u4), (CV.int .i64 0)])])))), (List.take (0 + (u6.2.1 + (List.length (List.take 1 (List.drop 0 [(CV.agg [(CV.int .i64 u3.1), (CV.slc none (List.take u3.2.1 (List.drop 0 u3.2.2.2.2.2.2.2.2.2.2.2.2.2.2.2.2.2.2.2.2.2.1))), (CV.slc none (List.take u3.2.2.1 (List.drop 0 u3.2.2.2.2.2.2.2.2.2.2.2.2.2.2.2.2.2.2.2.2.2.2.1))), (CV.int .i64 u3.2.2.2.1), (CV.int .i64 u3.2.2.2.2.1), (CV.bool u3.2.2.2.2.2.1), (CV.bool u3.2.2.2.2.2.2.1), (CV.int .i64 u3.2.2.2.2.2.2.2.1), (CV.int .i64 u3.2.2.2.2.2.2.2.2.1), (CV.int .i64 u3.2.2.2.2.2.2.2.2.2.1), (CV.bool u3.2.2.2.2.2.2.2.2.2.2.1), (CV.bool u3.2.2.2.2.2.2.2.2.2.2.2.1), (CV.bool u3.2.2.2.2.2.2.2.2.2.2.2.2.1), (CV.int .i64 u3.2.2.2.2.2.2.2.2.2.2.2.2.2.1), (CV.int .i64 u3.2.2.2.2.2.2.2.2.2.2.2.2.2.2.1), (CV.str u3.2.2.2.2.2.2.2.2.2.2.2.2.2.2.2.1), (CV.slc none (List.take u3.2.2.2.2.2.2.2.2.2.2.2.2.2.2.2.2.1 (List.drop 0 u3.2.2.2.2.2.2.2.2.2.2.2.2.2.2.2.2.2.2.2.2.2.2.2))), (CV.int .i64 u3.2.2.2.2.2.2.2.2.2.2.2.2.2.2.2.2.2.1), (CV.int .i64 u3.2.2.2.2.2.2.2.2.2.2.2.2.2.2.2.2.2.2.1), (CV.int .i64 u4), (CV.int .i64 0)])]))))) ((List.take u6.2.1 u6.2.2) ++ (List.take 1 (List.drop 0 [(CV.agg [(CV.int .i64 u3.1), (CV.slc none (List.take u3.2.1 (List.drop 0 u3.2.2.2.2.2.2.2.2.2.2.2.2.2.2.2.2.2.2.2.2.2.1))), (CV.slc none (List.take u3.2.2.1 (List.drop 0 u3.2.2.2.2.2.2.2.2.2.2.2.2.2.2.2.2.2.2.2.2.2.2.1))), (CV.int .i64 u3.2.2.2.1), (CV.int .i64 u3.2.2.2.2.1), (CV.bool u3.2.2.2.2.2.1), (CV.bool u3.2.2.2.2.2.2.1), (CV.int .i64 u3.2.2.2.2.2.2.2.1), (CV.int .i64 u3.2.2.2.2.2.2.2.2.1), (CV.int .i64 u3.2.2.2.2.2.2.2.2.2.1), (CV.bool u3.2.2.2.2.2.2.2.2.2.2.1), (CV.bool u3.2.2.2.2.2.2.2.2.2.2.2.1), (CV.bool u3.2.2.2.2.2.2.2.2.2.2.2.2.1), (CV.int .i64 u3.2.2.2.2.2.2.2.2.2.2.2.2.2.1), (CV.int .i64 u3.2.2.2.2.2.2.2.2.2.2.2.2.2.2.1), (CV.str u3.2.2.2.2.2.2.2.2.2.2.2.2.2.2.2.1), (CV.slc none (List.take u3.2.2.2.2.2.2.2.2.2.2.2.2.2.2.2.2.1 (List.drop 0 u3.2.2.2.2.2.2.2.2.2.2.2.2.2.2.2.2.2.2.2.2.2.2.2))), (CV.int .i64 u3.2.2.2.2.2.2.2.2.2.2.2.2.2.2.2.2.2.1), (CV.int .i64 u3.2.2.2.2.2.2.2.2.2.2.2.2.2.2.2.2.2.2.1), (CV.int .i64 u4), (CV.int .i64 0)])])))))))) (u3.1) ((List.take u3.2.1 (List.drop 0 u3.2.2.2.2.2.2.2.2.2.2.2.2.2.2.2.2.2.2.2.2.2.1))) (x1) (x2)) (u3.2.2.2.2.2.2.2.2.2.2.2.2.2.2.2.2.2.2.2.1)) ((CV.agg [(CV.int .i64 (CV.toI (CV.cellD 0 x0))), (CV.slc none (CV.toL (CV.cellD 1 x0))), (CV.slc none (CV.toL (CV.cellD 2 x0))), (CV.int .i64 (CV.toI (CV.cellD 3 x0))), (CV.int .i64 (CV.toI (CV.cellD 4 x0))), (CV.bool (CV.toB (CV.cellD 5 x0))), (CV.bool (CV.toB (CV.cellD 6 x0))), (CV.int .i64 (CV.toI (CV.cellD 7 x0))), (CV.int .i64 (CV.toI (CV.cellD 8 x0))), (CV.int .i64 (CV.toI (CV.cellD 9 x0))), (CV.bool (CV.toB (CV.cellD 10 x0))), (CV.bool (CV.toB (CV.cellD 11 x0))), (CV.bool (CV.toB (CV.cellD 12 x0))), (CV.int .i64 (CV.toI (CV.cellD 13 x0))), (CV.int .i64 (CV.toI (CV.cellD 14 x0))), (CV.str (CV.toS (CV.cellD 15 x0))), (CV.slc none (CV.toL (CV.cellD 16 x0))), (CV.int .i64 (CV.toI (CV.cellD 17 x0))), (CV.int .i64 (CV.toI (CV.cellD 18 x0))), (CV.int .i64 (CV.toI (CV.cellD 19 x0))), (CV.int .i64 (CV.toI (CV.cellD 20 x0)))])))) ((CV.toL (CV.cellD 2 x0))))
/-- "(*outpost/watch.Table).Add" -/
def f9_A (R_f30 : f30_R) (R_f31 : f31_R) (R_f32 : f32_R) (R_f33 : f33_R) (k : Nat) : f9_R := fun X K x0 x1 x2 => f9_T R_f30 R_f31 R_f32 R_f33 k K  x0 x1 x2
set_option maxRecDepth 100000 in
theorem f9_ev' {X : Type} (R_f30 : f30_R) (R_f31 : f31_R) (R_f32 : f32_R) (R_f33 : f33_R) (hR_f30 : AnsOk Try.prog 30 (f30_cOf R_f30)) (hR_f31 : AnsOk Try.prog 31 (f31_cOf R_f31)) (hR_f32 : AnsOk Try.prog 32 (f32_cOf R_f32)) (hR_f33 : AnsOk Try.prog 33 (f33_cOf R_f33)) (k : Nat) (K : Out → Option X) (x0 : CV) (x1 : Nat) (x2 : List CV) : evFn (f9_cx R_f30 R_f31 R_f32 R_f33 hR_f30 hR_f31 hR_f32 hR_f33) [] k Try.f9.ntmps Try.f9.results.toList (Try.f9.body.getD .skip) [(.ptr [1000] 0 0 0), (.v x0)] [([1000], (.obj [(.osl [0, 1000] (some 21) 0 x1)])), ([0, 1000], (.row false (some 21) x2))] K = f9_T R_f30 R_f31 R_f32 R_f33 k (fun u => K (f9_out u)) x0 x1 x2 := by kernel_rfl
theorem f9_ev {X : Type} (R_f30 : f30_R) (R_f31 : f31_R) (R_f32 : f32_R) (R_f33 : f33_R) (hR_f30 : AnsOk Try.prog 30 (f30_cOf R_f30)) (hR_f31 : AnsOk Try.prog 31 (f31_cOf R_f31)) (hR_f32 : AnsOk Try.prog 32 (f32_cOf R_f32)) (hR_f33 : AnsOk Try.prog 33 (f33_cOf R_f33)) (k : Nat) (K : Out → Option X) (x0 : CV) (x1 : Nat) (x2 : List CV) : evFn (f9_cx R_f30 R_f31 R_f32 R_f33 hR_f30 hR_f31 hR_f32 hR_f33) [] k Try.f9.ntmps Try.f9.results.toList (Try.f9.body.getD .skip) [(.ptr [1000] 0 0 0), (.v x0)] [([1000], (.obj [(.osl [0, 1000] (some 21) 0 x1)])), ([0, 1000], (.row false (some 21) x2))] K = f9_A R_f30 R_f31 R_f32 R_f33 k X (fun u => K (f9_out u)) x0 x1 x2 := (f9_ev' R_f30 R_f31 R_f32 R_f33 hR_f30 hR_f31 hR_f32 hR_f33 k K x0 x1 x2).trans rfl
theorem f9_okA (R_f30 : f30_R) (R_f31 : f31_R) (R_f32 : f32_R) (R_f33 : f33_R) (hR_f30 : AnsOk Try.prog 30 (f30_cOf R_f30)) (hR_f31 : AnsOk Try.prog 31 (f31_cOf R_f31)) (hR_f32 : AnsOk Try.prog 32 (f32_cOf R_f32)) (hR_f33 : AnsOk Try.prog 33 (f33_cOf R_f33)) (k : Nat) : AnsOk Try.prog 9 (f9_cOf (f9_A R_f30 R_f31 R_f32 R_f33 k)) := by
  intro X xs ns K x h
  unfold f9_cOf at h ⊢
  split at h
  · exact ans_main S (f9_Cok R_f30 R_f31 R_f32 R_f33 hR_f30 hR_f31 hR_f32 hR_f33) Try.func9 (ent_of Try.func9 (by kernel_rfl) rfl) rfl (fun X K => f9_ev R_f30 R_f31 R_f32 R_f33 hR_f30 hR_f31 hR_f32 hR_f33 k K _ _ _) h
  · cases h
/-- "(*outpost/watch.Table).Add" -/
def f9 {X : Type} (k : Nat) (K : Int × Nat × (List CV) → Option X) (x0 : CV) (x1 : Nat) (x2 : List CV) : Option X := f9_A (fun X => @f30 X k) (fun X => @f31 X k) (fun X => @f32 X k) (fun X => @f33 X k) k X K x0 x1 x2
theorem f9_ok (k : Nat) : AnsOk Try.prog 9 (f9_cOf (fun X => @f9 X k)) := f9_okA (fun X => @f30 X k) (fun X => @f31 X k) (fun X => @f32 X k) (fun X => @f33 X k) (f30_ok k) (f31_ok k) (f32_ok k) (f33_ok k) k
abbrev f53_R : Type 1 := (X : Type) → (Bool → Option X) → CV → CV → Option X
def f53_out (u : Bool) : Out := ⟨(.v (CV.bool u)), []⟩
def f53_cOf (R : f53_R) : FnC := fun X xs ns K => match xs, ns with
  | [(.v x0), (.v x1)], [] => R X (fun u => K (f53_out u)) x0 x1
  | _, _ => none
def f53_plan : Nat → Option (List Nat × List Wk)
  | 0 => some ([0, 1], [])
  | 1 => some ([2, 3], [])
  | _ => none
def f53_C (R_f42 : f42_R) : Fns := (orC 42 (f42_cOf R_f42) noC)
theorem f53_Cok (R_f42 : f42_R) (hR_f42 : AnsOk Try.prog 42 (f42_cOf R_f42)) : CsOk Try.prog (f53_C R_f42) := (orC_ok hR_f42 noC_ok)
def f53_cx (R_f42 : f42_R) (hR_f42 : AnsOk Try.prog 42 (f42_cOf R_f42)) : Cx := mkCx (tabOf rows) (f53_C R_f42) md (cmpIn cmps) f53_plan (f53_Cok R_f42 hR_f42)
def f53_T {X : Type} (R_f42 : f42_R) (k : Nat) (K : Bool → Option X)  (x0 : CV) (x1 : CV) : Option X :=
grd (CV.isA 6 x0) <|
grd (CV.isI .i64 (CV.cellD 0 x0)) <|
grd (CV.isI .i64 (CV.cellD 1 x0)) <|
grd (CV.isS (CV.cellD 2 x0)) <|
grd (CV.isL none (CV.cellD 3 x0)) <|
grd (CV.isI .i64 (CV.cellD 4 x0)) <|
grd (CV.isI .i64 (CV.cellD 5 x0)) <|
grd (CV.isA 6 x1) <|
grd (CV.isI .i64 (CV.cellD 0 x1)) <|
grd (CV.isI .i64 (CV.cellD 1 x1)) <|
grd (CV.isS (CV.cellD 2 x1)) <|
grd (CV.isL none (CV.cellD 3 x1)) <|
grd (CV.isI .i64 (CV.cellD 4 x1)) <|
grd (CV.isI .i64 (CV.cellD 5 x1)) <|
(bif ((CV.toI (CV.cellD 0 x0)) == (CV.toI (CV.cellD 0 x1))) then
(bif ((CV.toI (CV.cellD 1 x0)) == (CV.toI (CV.cellD 1 x1))) then
(bif ((CV.toS (CV.cellD 2 x0)).toList == (CV.toS (CV.cellD 2 x1)).toList) then
R_f42 _ (fun u1 =>
(bif u1 then
(bif ((CV.toI (CV.cellD 4 x0)) == (CV.toI (CV.cellD 4 x1))) then
K (((CV.toI (CV.cellD 5 x0)) == (CV.toI (CV.cellD 5 x1))))
else
K (false))
else
K (false))) ((CV.toL (CV.cellD 3 x0))) ((CV.toL (CV.cellD 3 x1)))
else
K (false))
else
K (false))
else
K (false))
/-- "outpost/watch.same" -/
def f53_A (R_f42 : f42_R) (k : Nat) : f53_R := fun X K x0 x1 => f53_T R_f42 k K  x0 x1
set_option maxRecDepth 100000 in
theorem f53_ev' {X : Type} (R_f42 : f42_R) (hR_f42 : AnsOk Try.prog 42 (f42_cOf R_f42)) (k : Nat) (K : Out → Option X) (x0 : CV) (x1 : CV) : evFn (f53_cx R_f42 hR_f42) [] k Try.f53.ntmps Try.f53.results.toList (Try.f53.body.getD .skip) [(.v x0), (.v x1)] [] K = f53_T R_f42 k (fun u => K (f53_out u)) x0 x1 := by kernel_rfl
theorem f53_ev {X : Type} (R_f42 : f42_R) (hR_f42 : AnsOk Try.prog 42 (f42_cOf R_f42)) (k : Nat) (K : Out → Option X) (x0 : CV) (x1 : CV) : evFn (f53_cx R_f42 hR_f42) [] k Try.f53.ntmps Try.f53.results.toList (Try.f53.body.getD .skip) [(.v x0), (.v x1)] [] K = f53_A R_f42 k X (fun u => K (f53_out u)) x0 x1 := (f53_ev' R_f42 hR_f42 k K x0 x1).trans rfl
theorem f53_okA (R_f42 : f42_R) (hR_f42 : AnsOk Try.prog 42 (f42_cOf R_f42)) (k : Nat) : AnsOk Try.prog 53 (f53_cOf (f53_A R_f42 k)) := by
  intro X xs ns K x h
  unfold f53_cOf at h ⊢
  split at h
  · exact ans_main S (f53_Cok R_f42 hR_f42) Try.func53 (ent_of Try.func53 (by kernel_rfl) rfl) rfl (fun X K => f53_ev R_f42 hR_f42 k K _ _) h
  · cases h
/-- "outpost/watch.same" -/
def f53 {X : Type} (k : Nat) (K : Bool → Option X) (x0 : CV) (x1 : CV) : Option X := f53_A (fun X => @f42 X k) k X K x0 x1
theorem f53_ok (k : Nat) : AnsOk Try.prog 53 (f53_cOf (fun X => @f53 X k)) := f53_okA (fun X => @f42 X k) (f42_ok k) k
abbrev f54_R : Type 1 := (X : Type) → (Bool → Option X) → CV → Option X
def f54_out (u : Bool) : Out := ⟨(.v (CV.bool u)), []⟩
def f54_cOf (R : f54_R) : FnC := fun X xs ns K => match xs, ns with
  | [(.v x0)], [] => R X (fun u => K (f54_out u)) x0
  | _, _ => none
def f54_plan : Nat → Option (List Nat × List Wk)
  | 0 => some ([0], [])
  | 1 => some ([1], [])
  | _ => none
def f54_C : Fns := noC
theorem f54_Cok : CsOk Try.prog (f54_C) := noC_ok
def f54_cx : Cx := mkCx (tabOf rows) (f54_C) md (cmpIn cmps) f54_plan (f54_Cok)
def f54_T {X : Type} (k : Nat) (K : Bool → Option X)  (x0 : CV) : Option X :=
grd (CV.isA 6 x0) <|
grd (CV.isI .i64 (CV.cellD 0 x0)) <|
grd (CV.isI .i64 (CV.cellD 1 x0)) <|
grd (CV.isS (CV.cellD 2 x0)) <|
grd (CV.isL none (CV.cellD 3 x0)) <|
grd (CV.isI .i64 (CV.cellD 4 x0)) <|
grd (CV.isI .i64 (CV.cellD 5 x0)) <|
(bif ((CV.toI (CV.cellD 0 x0)) == 1) then
K (true)
else
(bif ((CV.toI (CV.cellD 0 x0)) == 5) then
K (true)
else
K (((CV.toI (CV.cellD 0 x0)) == 2))))
/-- "outpost/watch.counted" -/
def f54_A (k : Nat) : f54_R := fun X K x0 => f54_T k K  x0
set_option maxRecDepth 100000 in
theorem f54_ev' {X : Type} (k : Nat) (K : Out → Option X) (x0 : CV) : evFn (f54_cx) [] k Try.f54.ntmps Try.f54.results.toList (Try.f54.body.getD .skip) [(.v x0)] [] K = f54_T k (fun u => K (f54_out u)) x0 := by kernel_rfl
theorem f54_ev {X : Type} (k : Nat) (K : Out → Option X) (x0 : CV) : evFn (f54_cx) [] k Try.f54.ntmps Try.f54.results.toList (Try.f54.body.getD .skip) [(.v x0)] [] K = f54_A k X (fun u => K (f54_out u)) x0 := (f54_ev' k K x0).trans rfl
theorem f54_okA (k : Nat) : AnsOk Try.prog 54 (f54_cOf (f54_A k)) := by
  intro X xs ns K x h
  unfold f54_cOf at h ⊢
  split at h
  · exact ans_main S (f54_Cok) Try.func54 (ent_of Try.func54 (by kernel_rfl) rfl) rfl (fun X K => f54_ev k K _) h
  · cases h
/-- "outpost/watch.counted" -/
def f54 {X : Type} (k : Nat) (K : Bool → Option X) (x0 : CV) : Option X := f54_A k X K x0
theorem f54_ok (k : Nat) : AnsOk Try.prog 54 (f54_cOf (fun X => @f54 X k)) := f54_okA k
abbrev f56_R : Type 1 := (X : Type) → (Int → Option X) → Int → Int → Option X
def f56_out (u : Int) : Out := ⟨(.v (CV.int .i64 u)), []⟩
def f56_cOf (R : f56_R) : FnC := fun X xs ns K => match xs, ns with
  | [(.v (CV.int .i64 x0)), (.v (CV.int .i64 x1))], [] => R X (fun u => K (f56_out u)) x0 x1
  | _, _ => none
def f56_plan : Nat → Option (List Nat × List Wk)
  | 0 => some ([0, 1], [])
  | 1 => some ([0, 1], [])
  | 2 => some ([0, 1], [])
  | 3 => some ([5], [])
  | 4 => some ([5], [])
  | 5 => some ([], [])
  | _ => none
def f56_C : Fns := noC
theorem f56_Cok : CsOk Try.prog (f56_C) := noC_ok
def f56_cx : Cx := mkCx (tabOf rows) (f56_C) md (cmpIn cmps) f56_plan (f56_Cok)
def f56_T {X : Type} (k : Nat) (K : Int → Option X)  (x0 : Int) (x1 : Int) : Option X :=
(bif (decide ((IntKind.wrap .i64 ((if x1 > x0 then x1 else x0) - (if x1 < x0 then x1 else x0))) ≥ 0)) then
K ((IntKind.wrap .i64 ((if x1 > x0 then x1 else x0) - (if x1 < x0 then x1 else x0))))
else
K (9223372036854775807))
/-- "outpost/watch.apart" -/
def f56_A (k : Nat) : f56_R := fun X K x0 x1 => f56_T k K  x0 x1
set_option maxRecDepth 100000 in
theorem f56_ev' {X : Type} (k : Nat) (K : Out → Option X) (x0 : Int) (x1 : Int) : evFn (f56_cx) [] k Try.f56.ntmps Try.f56.results.toList (Try.f56.body.getD .skip) [(.v (CV.int .i64 x0)), (.v (CV.int .i64 x1))] [] K = f56_T k (fun u => K (f56_out u)) x0 x1 := by kernel_rfl
theorem f56_ev {X : Type} (k : Nat) (K : Out → Option X) (x0 : Int) (x1 : Int) : evFn (f56_cx) [] k Try.f56.ntmps Try.f56.results.toList (Try.f56.body.getD .skip) [(.v (CV.int .i64 x0)), (.v (CV.int .i64 x1))] [] K = f56_A k X (fun u => K (f56_out u)) x0 x1 := (f56_ev' k K x0 x1).trans rfl
theorem f56_okA (k : Nat) : AnsOk Try.prog 56 (f56_cOf (f56_A k)) := by
  intro X xs ns K x h
  unfold f56_cOf at h ⊢
  split at h
  · exact ans_main S (f56_Cok) Try.func56 (ent_of Try.func56 (by kernel_rfl) rfl) rfl (fun X K => f56_ev k K _ _) h
  · cases h
/-- "outpost/watch.apart" -/
def f56 {X : Type} (k : Nat) (K : Int → Option X) (x0 : Int) (x1 : Int) : Option X := f56_A k X K x0 x1
theorem f56_ok (k : Nat) : AnsOk Try.prog 56 (f56_cOf (fun X => @f56 X k)) := f56_okA k
abbrev f55_R : Type 1 := (X : Type) → (Bool → Option X) → CV → Int → Int → Option X
def f55_out (u : Bool) : Out := ⟨(.v (CV.bool u)), []⟩
def f55_cOf (R : f55_R) : FnC := fun X xs ns K => match xs, ns with
  | [(.v x0), (.v (CV.int .i64 x1)), (.v (CV.int .i64 x2))], [] => R X (fun u => K (f55_out u)) x0 x1 x2
  | _, _ => none
def f55_plan : Nat → Option (List Nat × List Wk)
  | 0 => some ([0, 1, 2], [])
  | 1 => some ([1, 2, 3], [])
  | 2 => some ([1, 2, 3, 7], [])
  | 3 => some ([1, 2, 3, 7, 8], [])
  | _ => none
def f55_C (R_f56 : f56_R) : Fns := (orC 56 (f56_cOf R_f56) noC)
theorem f55_Cok (R_f56 : f56_R) (hR_f56 : AnsOk Try.prog 56 (f56_cOf R_f56)) : CsOk Try.prog (f55_C R_f56) := (orC_ok hR_f56 noC_ok)
def f55_cx (R_f56 : f56_R) (hR_f56 : AnsOk Try.prog 56 (f56_cOf R_f56)) : Cx := mkCx (tabOf rows) (f55_C R_f56) md (cmpIn cmps) f55_plan (f55_Cok R_f56 hR_f56)
def f55_T {X : Type} (R_f56 : f56_R) (k : Nat) (K : Bool → Option X)  (x0 : CV) (x1 : Int) (x2 : Int) : Option X :=
grd (CV.isA 10 x0) <|
grd (CV.isI .i64 (CV.cellD 0 x0)) <|
grd (CV.isI .i64 (CV.cellD 1 x0)) <|
grd (CV.isB (CV.cellD 2 x0)) <|
grd (CV.isB (CV.cellD 3 x0)) <|
grd (CV.isI .i64 (CV.cellD 4 x0)) <|
grd (CV.isI .i64 (CV.cellD 5 x0)) <|
grd (CV.isI .i64 (CV.cellD 6 x0)) <|
grd (CV.isB (CV.cellD 7 x0)) <|
grd (CV.isB (CV.cellD 8 x0)) <|
grd (CV.isB (CV.cellD 9 x0)) <|
(bif (CV.toB (CV.cellD 7 x0)) then
(bif (CV.toB (CV.cellD 8 x0)) then
(bif (!((decide (x1 > (CV.toI (CV.cellD 4 x0)))) == (decide (x2 > (CV.toI (CV.cellD 4 x0)))))) then
K (true)
else
(bif (!((decide (x1 < (CV.toI (CV.cellD 5 x0)))) == (decide (x2 < (CV.toI (CV.cellD 5 x0)))))) then
K (true)
else
(bif (CV.toB (CV.cellD 9 x0)) then
R_f56 _ (fun u1 =>
K ((decide (u1 ≥ (CV.toI (CV.cellD 6 x0)))))) (x1) (x2)
else
K (false))))
else
(bif (!((decide (x1 > (CV.toI (CV.cellD 4 x0)))) == (decide (x2 > (CV.toI (CV.cellD 4 x0)))))) then
K (true)
else
(bif (CV.toB (CV.cellD 9 x0)) then
R_f56 _ (fun u2 =>
K ((decide (u2 ≥ (CV.toI (CV.cellD 6 x0)))))) (x1) (x2)
else
K (false))))
else
(bif (CV.toB (CV.cellD 8 x0)) then
(bif (!((decide (x1 < (CV.toI (CV.cellD 5 x0)))) == (decide (x2 < (CV.toI (CV.cellD 5 x0)))))) then
K (true)
else
(bif (CV.toB (CV.cellD 9 x0)) then
R_f56 _ (fun u3 =>
K ((decide (u3 ≥ (CV.toI (CV.cellD 6 x0)))))) (x1) (x2)
else
K (false)))
else
(bif (CV.toB (CV.cellD 9 x0)) then
R_f56 _ (fun u4 =>
K ((decide (u4 ≥ (CV.toI (CV.cellD 6 x0)))))) (x1) (x2)
else
K (false))))
/-- "outpost/watch.passes" -/
def f55_A (R_f56 : f56_R) (k : Nat) : f55_R := fun X K x0 x1 x2 => f55_T R_f56 k K  x0 x1 x2
set_option maxRecDepth 100000 in
theorem f55_ev' {X : Type} (R_f56 : f56_R) (hR_f56 : AnsOk Try.prog 56 (f56_cOf R_f56)) (k : Nat) (K : Out → Option X) (x0 : CV) (x1 : Int) (x2 : Int) : evFn (f55_cx R_f56 hR_f56) [] k Try.f55.ntmps Try.f55.results.toList (Try.f55.body.getD .skip) [(.v x0), (.v (CV.int .i64 x1)), (.v (CV.int .i64 x2))] [] K = f55_T R_f56 k (fun u => K (f55_out u)) x0 x1 x2 := by kernel_rfl
theorem f55_ev {X : Type} (R_f56 : f56_R) (hR_f56 : AnsOk Try.prog 56 (f56_cOf R_f56)) (k : Nat) (K : Out → Option X) (x0 : CV) (x1 : Int) (x2 : Int) : evFn (f55_cx R_f56 hR_f56) [] k Try.f55.ntmps Try.f55.results.toList (Try.f55.body.getD .skip) [(.v x0), (.v (CV.int .i64 x1)), (.v (CV.int .i64 x2))] [] K = f55_A R_f56 k X (fun u => K (f55_out u)) x0 x1 x2 := (f55_ev' R_f56 hR_f56 k K x0 x1 x2).trans rfl
theorem f55_okA (R_f56 : f56_R) (hR_f56 : AnsOk Try.prog 56 (f56_cOf R_f56)) (k : Nat) : AnsOk Try.prog 55 (f55_cOf (f55_A R_f56 k)) := by
  intro X xs ns K x h
  unfold f55_cOf at h ⊢
  split at h
  · exact ans_main S (f55_Cok R_f56 hR_f56) Try.func55 (ent_of Try.func55 (by kernel_rfl) rfl) rfl (fun X K => f55_ev R_f56 hR_f56 k K _ _ _) h
  · cases h
/-- "outpost/watch.passes" -/
def f55 {X : Type} (k : Nat) (K : Bool → Option X) (x0 : CV) (x1 : Int) (x2 : Int) : Option X := f55_A (fun X => @f56 X k) k X K x0 x1 x2
theorem f55_ok (k : Nat) : AnsOk Try.prog 55 (f55_cOf (fun X => @f55 X k)) := f55_okA (fun X => @f56 X k) (f56_ok k) k
abbrev f50_R : Type 1 := (X : Type) → (Bool → Option X) → CV → CV → CV → Option X
def f50_out (u : Bool) : Out := ⟨(.v (CV.bool u)), []⟩
def f50_cOf (R : f50_R) : FnC := fun X xs ns K => match xs, ns with
  | [(.v x0), (.v x1), (.v x2)], [] => R X (fun u => K (f50_out u)) x0 x1 x2
  | _, _ => none
def f50_plan : Nat → Option (List Nat × List Wk)
  | 0 => some ([0, 1, 2], [])
  | 1 => some ([3, 4, 5], [])
  | 2 => some ([], [])
  | 3 => some ([3, 4, 5], [])
  | 4 => some ([3, 4, 5], [])
  | 5 => some ([3, 4, 5], [])
  | 6 => some ([], [])
  | 7 => some ([3, 4, 5], [])
  | _ => none
def f50_C (R_f53 : f53_R) (R_f54 : f54_R) (R_f55 : f55_R) : Fns := (orC 53 (f53_cOf R_f53) (orC 54 (f54_cOf R_f54) (orC 55 (f55_cOf R_f55) noC)))
theorem f50_Cok (R_f53 : f53_R) (R_f54 : f54_R) (R_f55 : f55_R) (hR_f53 : AnsOk Try.prog 53 (f53_cOf R_f53)) (hR_f54 : AnsOk Try.prog 54 (f54_cOf R_f54)) (hR_f55 : AnsOk Try.prog 55 (f55_cOf R_f55)) : CsOk Try.prog (f50_C R_f53 R_f54 R_f55) := (orC_ok hR_f53 (orC_ok hR_f54 (orC_ok hR_f55 noC_ok)))
def f50_cx (R_f53 : f53_R) (R_f54 : f54_R) (R_f55 : f55_R) (hR_f53 : AnsOk Try.prog 53 (f53_cOf R_f53)) (hR_f54 : AnsOk Try.prog 54 (f54_cOf R_f54)) (hR_f55 : AnsOk Try.prog 55 (f55_cOf R_f55)) : Cx := mkCx (tabOf rows) (f50_C R_f53 R_f54 R_f55) md (cmpIn cmps) f50_plan (f50_Cok R_f53 R_f54 R_f55 hR_f53 hR_f54 hR_f55)
def f50_J1 {X : Type} (R_f53 : f53_R) (R_f54 : f54_R) (R_f55 : f55_R) (k : Nat) (K : Bool → Option X) (x0 : CV) (x1 : CV) (x2 : CV) (v21 : Bool) : Option X :=
(bif v21 then
K (true)
else
R_f55 _ (fun u22 =>
K (u22)) ((CV.agg [(CV.int .i64 (CV.toI (CV.cellD 0 x0))), (CV.int .i64 (CV.toI (CV.cellD 1 x0))), (CV.bool (CV.toB (CV.cellD 2 x0))), (CV.bool (CV.toB (CV.cellD 3 x0))), (CV.int .i64 (CV.toI (CV.cellD 4 x0))), (CV.int .i64 (CV.toI (CV.cellD 5 x0))), (CV.int .i64 (CV.toI (CV.cellD 6 x0))), (CV.bool (CV.toB (CV.cellD 7 x0))), (CV.bool (CV.toB (CV.cellD 8 x0))), (CV.bool (CV.toB (CV.cellD 9 x0)))])) ((CV.toI (CV.cellD 1 x1))) ((CV.toI (CV.cellD 1 x2))))
def f50_T {X : Type} (R_f53 : f53_R) (R_f54 : f54_R) (R_f55 : f55_R) (k : Nat) (K : Bool → Option X)  (x0 : CV) (x1 : CV) (x2 : CV) : Option X :=
grd (CV.isA 10 x0) <|
grd (CV.isI .i64 (CV.cellD 0 x0)) <|
grd (CV.isI .i64 (CV.cellD 1 x0)) <|
grd (CV.isB (CV.cellD 2 x0)) <|
grd (CV.isB (CV.cellD 3 x0)) <|
grd (CV.isI .i64 (CV.cellD 4 x0)) <|
grd (CV.isI .i64 (CV.cellD 5 x0)) <|
grd (CV.isI .i64 (CV.cellD 6 x0)) <|
grd (CV.isB (CV.cellD 7 x0)) <|
grd (CV.isB (CV.cellD 8 x0)) <|
grd (CV.isB (CV.cellD 9 x0)) <|
grd (CV.isA 6 x1) <|
grd (CV.isI .i64 (CV.cellD 0 x1)) <|
grd (CV.isI .i64 (CV.cellD 1 x1)) <|
grd (CV.isS (CV.cellD 2 x1)) <|
grd (CV.isL none (CV.cellD 3 x1)) <|
grd (CV.isI .i64 (CV.cellD 4 x1)) <|
grd (CV.isI .i64 (CV.cellD 5 x1)) <|
grd (CV.isA 6 x2) <|
grd (CV.isI .i64 (CV.cellD 0 x2)) <|
grd (CV.isI .i64 (CV.cellD 1 x2)) <|
grd (CV.isS (CV.cellD 2 x2)) <|
grd (CV.isL none (CV.cellD 3 x2)) <|
grd (CV.isI .i64 (CV.cellD 4 x2)) <|
grd (CV.isI .i64 (CV.cellD 5 x2)) <|
R_f53 _ (fun u14 =>
(bif u14 then
K (false)
else
(bif (!(CV.toB (CV.cellD 7 x0))) then
(bif (!(CV.toB (CV.cellD 8 x0))) then
(bif (!(CV.toB (CV.cellD 9 x0))) then
f50_J1 R_f53 R_f54 R_f55 k K x0 x1 x2 ((!(CV.toB (CV.cellD 9 x0))))
else
R_f54 _ (fun u23 =>
(bif (!u23) then
f50_J1 R_f53 R_f54 R_f55 k K x0 x1 x2 ((!u23))
else
R_f54 _ (fun u24 =>
f50_J1 R_f53 R_f54 R_f55 k K x0 x1 x2 ((!u24))) ((CV.agg [(CV.int .i64 (CV.toI (CV.cellD 0 x2))), (CV.int .i64 (CV.toI (CV.cellD 1 x2))), (CV.str (CV.toS (CV.cellD 2 x2))), (CV.slc none (CV.toL (CV.cellD 3 x2))), (CV.int .i64 (CV.toI (CV.cellD 4 x2))), (CV.int .i64 (CV.toI (CV.cellD 5 x2)))])))) ((CV.agg [(CV.int .i64 (CV.toI (CV.cellD 0 x1))), (CV.int .i64 (CV.toI (CV.cellD 1 x1))), (CV.str (CV.toS (CV.cellD 2 x1))), (CV.slc none (CV.toL (CV.cellD 3 x1))), (CV.int .i64 (CV.toI (CV.cellD 4 x1))), (CV.int .i64 (CV.toI (CV.cellD 5 x1)))])))
else
R_f54 _ (fun u25 =>
(bif (!u25) then
f50_J1 R_f53 R_f54 R_f55 k K x0 x1 x2 ((!u25))
else
R_f54 _ (fun u26 =>
f50_J1 R_f53 R_f54 R_f55 k K x0 x1 x2 ((!u26))) ((CV.agg [(CV.int .i64 (CV.toI (CV.cellD 0 x2))), (CV.int .i64 (CV.toI (CV.cellD 1 x2))), (CV.str (CV.toS (CV.cellD 2 x2))), (CV.slc none (CV.toL (CV.cellD 3 x2))), (CV.int .i64 (CV.toI (CV.cellD 4 x2))), (CV.int .i64 (CV.toI (CV.cellD 5 x2)))])))) ((CV.agg [(CV.int .i64 (CV.toI (CV.cellD 0 x1))), (CV.int .i64 (CV.toI (CV.cellD 1 x1))), (CV.str (CV.toS (CV.cellD 2 x1))), (CV.slc none (CV.toL (CV.cellD 3 x1))), (CV.int .i64 (CV.toI (CV.cellD 4 x1))), (CV.int .i64 (CV.toI (CV.cellD 5 x1)))])))
else
R_f54 _ (fun u27 =>
(bif (!u27) then
f50_J1 R_f53 R_f54 R_f55 k K x0 x1 x2 ((!u27))
else
R_f54 _ (fun u28 =>
f50_J1 R_f53 R_f54 R_f55 k K x0 x1 x2 ((!u28))) ((CV.agg [(CV.int .i64 (CV.toI (CV.cellD 0 x2))), (CV.int .i64 (CV.toI (CV.cellD 1 x2))), (CV.str (CV.toS (CV.cellD 2 x2))), (CV.slc none (CV.toL (CV.cellD 3 x2))), (CV.int .i64 (CV.toI (CV.cellD 4 x2))), (CV.int .i64 (CV.toI (CV.cellD 5 x2)))])))) ((CV.agg [(CV.int .i64 (CV.toI (CV.cellD 0 x1))), (CV.int .i64 (CV.toI (CV.cellD 1 x1))), (CV.str (CV.toS (CV.cellD 2 x1))), (CV.slc none (CV.toL (CV.cellD 3 x1))), (CV.int .i64 (CV.toI (CV.cellD 4 x1))), (CV.int .i64 (CV.toI (CV.cellD 5 x1)))]))))) ((CV.agg [(CV.int .i64 (CV.toI (CV.cellD 0 x1))), (CV.int .i64 (CV.toI (CV.cellD 1 x1))), (CV.str (CV.toS (CV.cellD 2 x1))), (CV.slc none (CV.toL (CV.cellD 3 x1))), (CV.int .i64 (CV.toI (CV.cellD 4 x1))), (CV.int .i64 (CV.toI (CV.cellD 5 x1)))])) ((CV.agg [(CV.int .i64 (CV.toI (CV.cellD 0 x2))), (CV.int .i64 (CV.toI (CV.cellD 1 x2))), (CV.str (CV.toS (CV.cellD 2 x2))), (CV.slc none (CV.toL (CV.cellD 3 x2))), (CV.int .i64 (CV.toI (CV.cellD 4 x2))), (CV.int .i64 (CV.toI (CV.cellD 5 x2)))]))
/-- "outpost/watch.changed" -/
def f50_A (R_f53 : f53_R) (R_f54 : f54_R) (R_f55 : f55_R) (k : Nat) : f50_R := fun X K x0 x1 x2 => f50_T R_f53 R_f54 R_f55 k K  x0 x1 x2
set_option maxRecDepth 100000 in
theorem f50_ev' {X : Type} (R_f53 : f53_R) (R_f54 : f54_R) (R_f55 : f55_R) (hR_f53 : AnsOk Try.prog 53 (f53_cOf R_f53)) (hR_f54 : AnsOk Try.prog 54 (f54_cOf R_f54)) (hR_f55 : AnsOk Try.prog 55 (f55_cOf R_f55)) (k : Nat) (K : Out → Option X) (x0 : CV) (x1 : CV) (x2 : CV) : evFn (f50_cx R_f53 R_f54 R_f55 hR_f53 hR_f54 hR_f55) [] k Try.f50.ntmps Try.f50.results.toList (Try.f50.body.getD .skip) [(.v x0), (.v x1), (.v x2)] [] K = f50_T R_f53 R_f54 R_f55 k (fun u => K (f50_out u)) x0 x1 x2 := by kernel_rfl
theorem f50_ev {X : Type} (R_f53 : f53_R) (R_f54 : f54_R) (R_f55 : f55_R) (hR_f53 : AnsOk Try.prog 53 (f53_cOf R_f53)) (hR_f54 : AnsOk Try.prog 54 (f54_cOf R_f54)) (hR_f55 : AnsOk Try.prog 55 (f55_cOf R_f55)) (k : Nat) (K : Out → Option X) (x0 : CV) (x1 : CV) (x2 : CV) : evFn (f50_cx R_f53 R_f54 R_f55 hR_f53 hR_f54 hR_f55) [] k Try.f50.ntmps Try.f50.results.toList (Try.f50.body.getD .skip) [(.v x0), (.v x1), (.v x2)] [] K = f50_A R_f53 R_f54 R_f55 k X (fun u => K (f50_out u)) x0 x1 x2 := (f50_ev' R_f53 R_f54 R_f55 hR_f53 hR_f54 hR_f55 k K x0 x1 x2).trans rfl
theorem f50_okA (R_f53 : f53_R) (R_f54 : f54_R) (R_f55 : f55_R) (hR_f53 : AnsOk Try.prog 53 (f53_cOf R_f53)) (hR_f54 : AnsOk Try.prog 54 (f54_cOf R_f54)) (hR_f55 : AnsOk Try.prog 55 (f55_cOf R_f55)) (k : Nat) : AnsOk Try.prog 50 (f50_cOf (f50_A R_f53 R_f54 R_f55 k)) := by
  intro X xs ns K x h
  unfold f50_cOf at h ⊢
  split at h
  · exact ans_main S (f50_Cok R_f53 R_f54 R_f55 hR_f53 hR_f54 hR_f55) Try.func50 (ent_of Try.func50 (by kernel_rfl) rfl) rfl (fun X K => f50_ev R_f53 R_f54 R_f55 hR_f53 hR_f54 hR_f55 k K _ _ _) h
  · cases h
/-- "outpost/watch.changed" -/
def f50 {X : Type} (k : Nat) (K : Bool → Option X) (x0 : CV) (x1 : CV) (x2 : CV) : Option X := f50_A (fun X => @f53 X k) (fun X => @f54 X k) (fun X => @f55 X k) k X K x0 x1 x2
theorem f50_ok (k : Nat) : AnsOk Try.prog 50 (f50_cOf (fun X => @f50 X k)) := f50_okA (fun X => @f53 X k) (fun X => @f54 X k) (fun X => @f55 X k) (f53_ok k) (f54_ok k) (f55_ok k) k
abbrev f34_R : Type 1 := (X : Type) → (Bool → Option X) → CV → CV → Int → Option X
def f34_out (u : Bool) : Out := ⟨(.v (CV.bool u)), []⟩
def f34_cOf (R : f34_R) : FnC := fun X xs ns K => match xs, ns with
  | [(.v x0), (.v x1), (.v (CV.int .i64 x2))], [] => R X (fun u => K (f34_out u)) x0 x1 x2
  | _, _ => none
def f34_plan : Nat → Option (List Nat × List Wk)
  | 0 => some ([0, 1, 2], [])
  | 1 => some ([2, 3, 4], [])
  | 2 => some ([3, 4, 7], [])
  | 3 => some ([3, 4, 7, 8], [])
  | 4 => some ([3, 4, 7, 8], [])
  | 5 => some ([3, 4, 7, 8], [])
  | 6 => some ([], [])
  | 7 => some ([3, 4, 7], [])
  | 8 => some ([], [])
  | 9 => some ([3, 4], [])
  | _ => none
def f34_C (R_f50 : f50_R) : Fns := (orC 50 (f50_cOf R_f50) noC)
theorem f34_Cok (R_f50 : f50_R) (hR_f50 : AnsOk Try.prog 50 (f50_cOf R_f50)) : CsOk Try.prog (f34_C R_f50) := (orC_ok hR_f50 noC_ok)
def f34_cx (R_f50 : f50_R) (hR_f50 : AnsOk Try.prog 50 (f50_cOf R_f50)) : Cx := mkCx (tabOf rows) (f34_C R_f50) md (cmpIn cmps) f34_plan (f34_Cok R_f50 hR_f50)
def f34_J1 {X : Type} (R_f50 : f50_R) (k : Nat) (K : Bool → Option X) (v1 : Int × Int × Int × Int × ByteArray × (List CV) × Int × Int) (x0 : CV) (v2 : Unit) : Option X :=
R_f50 _ (fun u3 =>
K (u3)) ((CV.agg [(CV.int .i64 (CV.toI (CV.cellD 3 x0))), (CV.int .i64 (CV.toI (CV.cellD 4 x0))), (CV.bool (CV.toB (CV.cellD 5 x0))), (CV.bool (CV.toB (CV.cellD 6 x0))), (CV.int .i64 (CV.toI (CV.cellD 7 x0))), (CV.int .i64 (CV.toI (CV.cellD 8 x0))), (CV.int .i64 (CV.toI (CV.cellD 9 x0))), (CV.bool (CV.toB (CV.cellD 10 x0))), (CV.bool (CV.toB (CV.cellD 11 x0))), (CV.bool (CV.toB (CV.cellD 12 x0)))])) ((CV.agg [(CV.int .i64 (CV.toI (CV.cellD 13 x0))), (CV.int .i64 (CV.toI (CV.cellD 14 x0))), (CV.str (CV.toS (CV.cellD 15 x0))), (CV.slc none (CV.toL (CV.cellD 16 x0))), (CV.int .i64 (CV.toI (CV.cellD 17 x0))), (CV.int .i64 (CV.toI (CV.cellD 18 x0)))])) ((CV.agg [(CV.int .i64 v1.2.2.1), (CV.int .i64 v1.2.2.2.1), (CV.str v1.2.2.2.2.1), (CV.slc none v1.2.2.2.2.2.1), (CV.int .i64 v1.2.2.2.2.2.2.1), (CV.int .i64 v1.2.2.2.2.2.2.2)]))
def f34_J2 {X : Type} (R_f50 : f50_R) (k : Nat) (K : Bool → Option X) (x0 : CV) (v1 : Int × Int × Int × Int × ByteArray × (List CV) × Int × Int) : Option X :=
(bif (decide (v1.1 < v1.2.1)) then
K (false)
else
(bif (CV.toB (CV.cellD 6 x0)) then
(bif (decide ((CV.toI (CV.cellD 4 x0)) > 0)) then
(bif (decide (v1.1 ≥ (CV.toI (CV.cellD 4 x0)))) then
K (true)
else
f34_J1 R_f50 k K v1 x0 (()))
else
f34_J1 R_f50 k K v1 x0 (()))
else
f34_J1 R_f50 k K v1 x0 (())))
def f34_T {X : Type} (R_f50 : f50_R) (k : Nat) (K : Bool → Option X)  (x0 : CV) (x1 : CV) (x2 : Int) : Option X :=
grd (CV.isA 21 x0) <|
grd (CV.isI .i64 (CV.cellD 0 x0)) <|
grd (CV.isL none (CV.cellD 1 x0)) <|
grd (CV.isL none (CV.cellD 2 x0)) <|
grd (CV.isI .i64 (CV.cellD 3 x0)) <|
grd (CV.isI .i64 (CV.cellD 4 x0)) <|
grd (CV.isB (CV.cellD 5 x0)) <|
grd (CV.isB (CV.cellD 6 x0)) <|
grd (CV.isI .i64 (CV.cellD 7 x0)) <|
grd (CV.isI .i64 (CV.cellD 8 x0)) <|
grd (CV.isI .i64 (CV.cellD 9 x0)) <|
grd (CV.isB (CV.cellD 10 x0)) <|
grd (CV.isB (CV.cellD 11 x0)) <|
grd (CV.isB (CV.cellD 12 x0)) <|
grd (CV.isI .i64 (CV.cellD 13 x0)) <|
grd (CV.isI .i64 (CV.cellD 14 x0)) <|
grd (CV.isS (CV.cellD 15 x0)) <|
grd (CV.isL none (CV.cellD 16 x0)) <|
grd (CV.isI .i64 (CV.cellD 17 x0)) <|
grd (CV.isI .i64 (CV.cellD 18 x0)) <|
grd (CV.isI .i64 (CV.cellD 19 x0)) <|
grd (CV.isI .i64 (CV.cellD 20 x0)) <|
grd (CV.isA 6 x1) <|
grd (CV.isI .i64 (CV.cellD 0 x1)) <|
grd (CV.isI .i64 (CV.cellD 1 x1)) <|
grd (CV.isS (CV.cellD 2 x1)) <|
grd (CV.isL none (CV.cellD 3 x1)) <|
grd (CV.isI .i64 (CV.cellD 4 x1)) <|
grd (CV.isI .i64 (CV.cellD 5 x1)) <|
(bif (CV.toB (CV.cellD 5 x0)) then
f34_J2 R_f50 k K x0 ((IntKind.wrap .i64 (x2 - (CV.toI (CV.cellD 19 x0)))), (if (CV.toI (CV.cellD 3 x0)) > 1 then (CV.toI (CV.cellD 3 x0)) else 1), (CV.toI (CV.cellD 0 x1)), (CV.toI (CV.cellD 1 x1)), (CV.toS (CV.cellD 2 x1)), (CV.toL (CV.cellD 3 x1)), (CV.toI (CV.cellD 4 x1)), (CV.toI (CV.cellD 5 x1)))
else
f34_J2 R_f50 k K x0 ((IntKind.wrap .i64 (x2 - (CV.toI (CV.cellD 19 x0)))), 1, (CV.toI (CV.cellD 0 x1)), (CV.toI (CV.cellD 1 x1)), (CV.toS (CV.cellD 2 x1)), (CV.toL (CV.cellD 3 x1)), (CV.toI (CV.cellD 4 x1)), (CV.toI (CV.cellD 5 x1))))
/-- "(outpost/watch.Watch).due" -/
def f34_A (R_f50 : f50_R) (k : Nat) : f34_R := fun X K x0 x1 x2 => f34_T R_f50 k K  x0 x1 x2
set_option maxRecDepth 100000 in
theorem f34_ev' {X : Type} (R_f50 : f50_R) (hR_f50 : AnsOk Try.prog 50 (f50_cOf R_f50)) (k : Nat) (K : Out → Option X) (x0 : CV) (x1 : CV) (x2 : Int) : evFn (f34_cx R_f50 hR_f50) [] k Try.f34.ntmps Try.f34.results.toList (Try.f34.body.getD .skip) [(.v x0), (.v x1), (.v (CV.int .i64 x2))] [] K = f34_T R_f50 k (fun u => K (f34_out u)) x0 x1 x2 := by kernel_rfl
theorem f34_ev {X : Type} (R_f50 : f50_R) (hR_f50 : AnsOk Try.prog 50 (f50_cOf R_f50)) (k : Nat) (K : Out → Option X) (x0 : CV) (x1 : CV) (x2 : Int) : evFn (f34_cx R_f50 hR_f50) [] k Try.f34.ntmps Try.f34.results.toList (Try.f34.body.getD .skip) [(.v x0), (.v x1), (.v (CV.int .i64 x2))] [] K = f34_A R_f50 k X (fun u => K (f34_out u)) x0 x1 x2 := (f34_ev' R_f50 hR_f50 k K x0 x1 x2).trans rfl
theorem f34_okA (R_f50 : f50_R) (hR_f50 : AnsOk Try.prog 50 (f50_cOf R_f50)) (k : Nat) : AnsOk Try.prog 34 (f34_cOf (f34_A R_f50 k)) := by
  intro X xs ns K x h
  unfold f34_cOf at h ⊢
  split at h
  · exact ans_main S (f34_Cok R_f50 hR_f50) Try.func34 (ent_of Try.func34 (by kernel_rfl) rfl) rfl (fun X K => f34_ev R_f50 hR_f50 k K _ _ _) h
  · cases h
/-- "(outpost/watch.Watch).due" -/
def f34 {X : Type} (k : Nat) (K : Bool → Option X) (x0 : CV) (x1 : CV) (x2 : Int) : Option X := f34_A (fun X => @f50 X k) k X K x0 x1 x2
theorem f34_ok (k : Nat) : AnsOk Try.prog 34 (f34_cOf (fun X => @f34 X k)) := f34_okA (fun X => @f50 X k) (f50_ok k) k
abbrev f11_R : Type 1 := (X : Type) → (Nat × Nat × (List CV) × (List CV) → Option X) → (List CV) → Int → Nat → (List CV) → Option X
def f11_out (u : Nat × Nat × (List CV) × (List CV)) : Out := ⟨(.osl [2000] (some 21) 0 u.1), [([1000], (.obj [(.osl [0, 1000] (some 21) 0 u.2.1)])), ([0, 1000], (.row false (some 21) u.2.2.1)), ([2000], (.row false (some 21) u.2.2.2))]⟩
def f11_cOf (R : f11_R) : FnC := fun X xs ns K => match xs, ns with
  | [(.ptr [1000] 0 0 0), (.sl false (some 6) x0), (.v (CV.int .i64 x1))], [([1000], (.obj [(.osl [0, 1000] (some 21) 0 x2)])), ([0, 1000], (.row false (some 21) x3))] => R X (fun u => K (f11_out u)) x0 x1 x2 x3
  | _, _ => none
def f11_plan : Nat → Option (List Nat × List Wk)
  | 0 => some ([0, 1, 2], [])
  | 1 => some ([0, 1, 2], [])
  | 2 => some ([0, 1, 2], [])
  | 3 => some ([0, 1, 2, 7], [])
  | 4 => some ([0, 1, 2, 7, 17, 18], [⟨7, [], some [7]⟩])
  | 5 => some ([0, 1, 2, 7, 17, 18], [])
  | 6 => some ([0, 1, 2, 7, 8, 17, 18], [])
  | 7 => some ([0, 1, 2, 7, 8, 9, 17, 18], [])
  | 8 => some ([0, 1, 2, 7, 8, 9, 10, 17, 18], [])
  | 9 => some ([0, 1, 2, 7, 8, 9, 10, 17, 18], [])
  | 10 => some ([0, 1, 2, 7, 9, 10, 17, 18], [])
  | 11 => some ([0, 1, 2, 7, 9, 10, 17, 18], [])
  | 12 => some ([0, 1, 2, 7, 9, 10, 17, 18], [])
  | 13 => some ([0, 1, 2, 7, 9, 17, 18], [])
  | 14 => some ([0, 1, 2, 7, 17, 18], [⟨7, [], some [7]⟩])
  | 15 => some ([7], [])
  | _ => none
def f11_C (R_f32 : f32_R) (R_f34 : f34_R) (R_f35 : f35_R) (R_f31 : f31_R) : Fns := (orC 31 (f31_cOf R_f31) (orC 32 (f32_cOf R_f32) (orC 34 (f34_cOf R_f34) (orC 35 (f35_cOf R_f35) noC))))
theorem f11_Cok (R_f32 : f32_R) (R_f34 : f34_R) (R_f35 : f35_R) (R_f31 : f31_R) (hR_f32 : AnsOk Try.prog 32 (f32_cOf R_f32)) (hR_f34 : AnsOk Try.prog 34 (f34_cOf R_f34)) (hR_f35 : AnsOk Try.prog 35 (f35_cOf R_f35)) (hR_f31 : AnsOk Try.prog 31 (f31_cOf R_f31)) : CsOk Try.prog (f11_C R_f32 R_f34 R_f35 R_f31) := (orC_ok hR_f31 (orC_ok hR_f32 (orC_ok hR_f34 (orC_ok hR_f35 noC_ok))))
def f11_cx (R_f32 : f32_R) (R_f34 : f34_R) (R_f35 : f35_R) (R_f31 : f31_R) (hR_f32 : AnsOk Try.prog 32 (f32_cOf R_f32)) (hR_f34 : AnsOk Try.prog 34 (f34_cOf R_f34)) (hR_f35 : AnsOk Try.prog 35 (f35_cOf R_f35)) (hR_f31 : AnsOk Try.prog 31 (f31_cOf R_f31)) : Cx := mkCx (tabOf rows) (f11_C R_f32 R_f34 R_f35 R_f31) md (cmpIn cmps) f11_plan (f11_Cok R_f32 R_f34 R_f35 R_f31 hR_f32 hR_f34 hR_f35 hR_f31)
def f11_S1 (v : (List CV) × Int × Nat × Int × Int × (List CV) × Nat × (List CV)) : St := ⟨[(.ptr [1000] 0 0 0), (.sl false (some 6) v.1), (.v (CV.int .i64 v.2.1)), .undef, .undef, .undef, .undef, (.osl [7] (some 21) 0 v.2.2.1), .undef, .undef, .undef, .undef, .undef, .undef, .undef, .undef, .undef, (.v (CV.int .i64 v.2.2.2.1)), (.v (CV.int .i64 v.2.2.2.2.1)), .undef, .undef, .undef, .undef, .undef, .undef, .undef, .undef, .undef, .undef, .undef, .undef, .undef, .undef, .undef, .undef, .undef, .undef, .undef, .undef, .undef, .undef, .undef, .undef, .undef, .undef, .undef, .undef, .undef, .undef, .undef, .undef, .undef, .undef, .undef, .undef, .undef, .undef, .undef, .undef, .undef, .undef, .undef, .undef, .undef, .undef, .undef, .undef, .undef, .undef, .undef, .undef, .undef, .undef, .undef, .undef, .undef, .undef, .undef, .undef], [([7], (.row false (some 21) v.2.2.2.2.2.1)), ([1000], (.obj [(.osl [0, 1000] (some 21) 0 v.2.2.2.2.2.2.1)])), ([0, 1000], (.row false (some 21) v.2.2.2.2.2.2.2))]⟩
def f11_J1 {X : Type} (R_f32 : f32_R) (R_f34 : f34_R) (R_f35 : f35_R) (R_f31 : f31_R) (k : Nat) (K : Nat × Nat × (List CV) × (List CV) → Option X) (rec1 : (List CV) × Int × Nat × Int × Int × (List CV) × Nat × (List CV) → Option X) (v6_1 : (List CV) × Int × Nat × Int × Int × (List CV) × Nat × (List CV)) (v66 : Nat × (List CV) × (List CV)) : Option X :=
rec1 (v6_1.1, v6_1.2.1, v66.1, v6_1.2.2.2.1, (IntKind.wrap .i64 (v6_1.2.2.2.2.1 + 1)), v66.2.1, v6_1.2.2.2.2.2.2.1, v66.2.2)
def f11_J2 {X : Type} (R_f32 : f32_R) (R_f34 : f34_R) (R_f35 : f35_R) (R_f31 : f31_R) (k : Nat) (K : Nat × Nat × (List CV) × (List CV) → Option X) (rec1 : (List CV) × Int × Nat × Int × Int × (List CV) × Nat × (List CV) → Option X) (v6_1 : (List CV) × Int × Nat × Int × Int × (List CV) × Nat × (List CV)) (v70 : Int × Int × ByteArray × (List CV) × Int × Int) : Option X :=
Option.bind (v6_1.2.2.2.2.2.2.2)[(0 + (Int.toNat v6_1.2.2.2.2.1))]? fun e73 =>
R_f34 _ (fun u74 =>
(bif (!u74) then
f11_J1 R_f32 R_f34 R_f35 R_f31 k K rec1 v6_1 (v6_1.2.2.1, v6_1.2.2.2.2.2.1, v6_1.2.2.2.2.2.2.2)
else
Option.bind (v6_1.2.2.2.2.2.2.2)[(0 + (Int.toNat v6_1.2.2.2.2.1))]? fun e75 =>
Option.bind (CV.cell e75 20) fun c76 =>
grd (CV.isI .i64 c76) <|
Option.bind (v6_1.2.2.2.2.2.2.2)[(0 + (Int.toNat v6_1.2.2.2.2.1))]? fun e77 =>
(setRun e77 13 6 [(CV.int .i64 v70.1), (CV.int .i64 v70.2.1), (CV.str v70.2.2.1), (CV.slc none v70.2.2.2.1), (CV.int .i64 v70.2.2.2.2.1), (CV.int .i64 v70.2.2.2.2.2)] fun d78 =>
Option.bind ((List.set v6_1.2.2.2.2.2.2.2 (0 + (Int.toNat v6_1.2.2.2.2.1)) d78))[(0 + (Int.toNat v6_1.2.2.2.2.1))]? fun e79 =>
(setCell e79 19 (CV.int .i64 v6_1.2.1) fun d80 =>
Option.bind ((List.set (List.set v6_1.2.2.2.2.2.2.2 (0 + (Int.toNat v6_1.2.2.2.2.1)) d78) (0 + (Int.toNat v6_1.2.2.2.2.1)) d80))[(0 + (Int.toNat v6_1.2.2.2.2.1))]? fun e81 =>
(setCell e81 20 (CV.int .i64 (Int.tmod (IntKind.wrap .i64 ((CV.toI c76) + 1)) 16777216)) fun d82 =>
R_f35 _ (fun u83 =>
Option.bind ((List.set (List.set (List.set v6_1.2.2.2.2.2.2.2 (0 + (Int.toNat v6_1.2.2.2.2.1)) d78) (0 + (Int.toNat v6_1.2.2.2.2.1)) d80) (0 + (Int.toNat v6_1.2.2.2.2.1)) d82))[(0 + (Int.toNat v6_1.2.2.2.2.1))]? fun e84 =>
(setCell e84 16 (CV.slc none (List.take (List.length u83) (List.drop 0 u83))) fun d85 =>
Option.bind ((List.set (List.set (List.set (List.set v6_1.2.2.2.2.2.2.2 (0 + (Int.toNat v6_1.2.2.2.2.1)) d78) (0 + (Int.toNat v6_1.2.2.2.2.1)) d80) (0 + (Int.toNat v6_1.2.2.2.2.1)) d82) (0 + (Int.toNat v6_1.2.2.2.2.1)) d85))[(0 + (Int.toNat v6_1.2.2.2.2.1))]? fun e86 =>
R_f31 _ (fun u87 =>
grd (decide ((v6_1.2.2.1 + (List.length (List.take 1 (List.drop 0 [(CV.agg [(CV.int .i64 u87.1), (CV.slc none (List.take u87.2.1 (List.drop 0 u87.2.2.2.2.2.2.2.2.2.2.2.2.2.2.2.2.2.2.2.2.2.1))), (CV.slc none (List.take u87.2.2.1 (List.drop 0 u87.2.2.2.2.2.2.2.2.2.2.2.2.2.2.2.2.2.2.2.2.2.2.1))), (CV.int .i64 u87.2.2.2.1), (CV.int .i64 u87.2.2.2.2.1), (CV.bool u87.2.2.2.2.2.1), (CV.bool u87.2.2.2.2.2.2.1), (CV.int .i64 u87.2.2.2.2.2.2.2.1), (CV.int .i64 u87.2.2.2.2.2.2.2.2.1), (CV.int .i64 u87.2.2.2.2.2.2.2.2.2.1), (CV.bool u87.2.2.2.2.2.2.2.2.2.2.1), (CV.bool u87.2.2.2.2.2.2.2.2.2.2.2.1), (CV.bool u87.2.2.2.2.2.2.2.2.2.2.2.2.1), (CV.int .i64 u87.2.2.2.2.2.2.2.2.2.2.2.2.2.1), (CV.int .i64 u87.2.2.2.2.2.2.2.2.2.2.2.2.2.2.1), (CV.str u87.2.2.2.2.2.2.2.2.2.2.2.2.2.2.2.1), (CV.slc none (List.take u87.2.2.2.2.2.2.2.2.2.2.2.2.2.2.2.2.1 (List.drop 0 u87.2.2.2.2.2.2.2.2.2.2.2.2.2.2.2.2.2.2.2.2.2.2.2))), (CV.int .i64 u87.2.2.2.2.2.2.2.2.2.2.2.2.2.2.2.2.2.1), (CV.int .i64 u87.2.2.2.2.2.2.2.2.2.2.2.2.2.2.2.2.2.2.1), (CV.int .i64 u87.2.2.2.2.2.2.2.2.2.2.2.2.2.2.2.2.2.2.2.1), (CV.int .i64 u87.2.2.2.2.2.2.2.2.2.2.2.2.2.2.2.2.2.2.2.2.1)])])))) * 200 ≤ 140737488355328)) <|
f11_J1 R_f32 R_f34 R_f35 R_f31 k K rec1 v6_1 ((v6_1.2.2.1 + (List.length (List.take 1 (List.drop 0 [(CV.agg [(CV.int .i64 u87.1), (CV.slc none (List.take u87.2.1 (List.drop 0 u87.2.2.2.2.2.2.2.2.2.2.2.2.2.2.2.2.2.2.2.2.2.1))), (CV.slc none (List.take u87.2.2.1 (List.drop 0 u87.2.2.2.2.2.2.2.2.2.2.2.2.2.2.2.2.2.2.2.2.2.2.1))), (CV.int .i64 u87.2.2.2.1), (CV.int .i64 u87.2.2.2.2.1), (CV.bool u87.2.2.2.2.2.1), (CV.bool u87.2.2.2.2.2.2.1), (CV.int .i64 u87.2.2.2.2.2.2.2.1), (CV.int .i64 u87.2.2.2.2.2.2.2.2.1), (CV.int .i64 u87.2.2.2.2.2.2.2.2.2.1), (CV.bool u87.2.2.2.2.2.2.2.2.2.2.1), (CV.bool u87.2.2.2.2.2.2.2.2.2.2.2.1), (CV.bool u87.2.2.2.2.2.2.2.2.2.2.2.2.1), (CV.int .i64 u87.2.2.2.2.2.2.2.2.2.2.2.2.2.1), (CV.int .i64 u87.2.2.2.2.2.2.2.2.2.2.2.2.2.2.1), (CV.str u87.2.2.2.2.2.2.2.2.2.2.2.2.2.2.2.1), (CV.slc none (List.take u87.2.2.2.2.2.2.2.2.2.2.2.2.2.2.2.2.1 (List.drop 0 u87.2.2.2.2.2.2.2.2.2.2.2.2.2.2.2.2.2.2.2.2.2.2.2))), (CV.int .i64 u87.2.2.2.2.2.2.2.2.2.2.2.2.2.2.2.2.2.1), (CV.int .i64 u87.2.2.2.2.2.2.2.2.2.2.2.2.2.2.2.2.2.2.1), (CV.int .i64 u87.2.2.2.2.2.2.2.2.2.2.2.2.2.2.2.2.2.2.2.1), (CV.int .i64 u87.2.2.2.2.2.2.2.2.2.2.2.2.2.2.2.2.2.2.2.2.1)])])))), ((List.take v6_1.2.2.1 v6_1.2.2.2.2.2.1) ++ (List.take 1 (List.drop 0 [(CV.agg [(CV.int .i64 u87.1), (CV.slc none (List.take u87.2.1 (List.drop 0 u87.2.2.2.2.2.2.2.2.2.2.2.2.2.2.2.2.2.2.2.2.2.1))), (CV.slc none (List.take u87.2.2.1 (List.drop 0 u87.2.2.2.2.2.2.2.2.2.2.2.2.2.2.2.2.2.2.2.2.2.2.1))), (CV.int .i64 u87.2.2.2.1), (CV.int .i64 u87.2.2.2.2.1), (CV.bool u87.2.2.2.2.2.1), (CV.bool u87.2.2.2.2.2.2.1), (CV.int .i64 u87.2.2.2.2.2.2.2.1), (CV.int .i64 u87.2.2.2.2.2.2.2.2.1), (CV.int .i64 u87.2.2.2.2.2.2.2.2.2.1), (CV.bool u87.2.2.2.2.2.2.2.2.2.2.1), (CV.bool u87.2.2.2.2.2.2.2.2.2.2.2.1), (CV.bool u87.2.2.2.2.2.2.2.2.2.2.2.2.1), (CV.int .i64 u87.2.2.2.2.2.2.2.2.2.2.2.2.2.1), (CV.int .i64 u87.2.2.2.2.2.2.2.2.2.2.2.2.2.2.1), (CV.str u87.2.2.2.2.2.2.2.2.2.2.2.2.2.2.2.1), (CV.slc none (List.take u87.2.2.2.2.2.2.2.2.2.2.2.2.2.2.2.2.1 (List.drop 0 u87.2.2.2.2.2.2.2.2.2.2.2.2.2.2.2.2.2.2.2.2.2.2.2))), (CV.int .i64 u87.2.2.2.2.2.2.2.2.2.2.2.2.2.2.2.2.2.1), (CV.int .i64 u87.2.2.2.2.2.2.2.2.2.2.2.2.2.2.2.2.2.2.1), (CV.int .i64 u87.2.2.2.2.2.2.2.2.2.2.2.2.2.2.2.2.2.2.2.1), (CV.int .i64 u87.2.2.2.2.2.2.2.2.2.2.2.2.2.2.2.2.2.2.2.2.1)])]))), (List.set (List.set (List.set (List.set v6_1.2.2.2.2.2.2.2 (0 + (Int.toNat v6_1.2.2.2.2.1)) d78) (0 + (Int.toNat v6_1.2.2.2.2.1)) d80) (0 + (Int.toNat v6_1.2.2.2.2.1)) d82) (0 + (Int.toNat v6_1.2.2.2.2.1)) d85))) (e86))) (v70.2.2.2.1)))))) (e73) ((CV.agg [(CV.int .i64 v70.1), (CV.int .i64 v70.2.1), (CV.str v70.2.2.1), (CV.slc none v70.2.2.2.1), (CV.int .i64 v70.2.2.2.2.1), (CV.int .i64 v70.2.2.2.2.2)])) (v6_1.2.1)
def f11_T1 {X : Type} (R_f32 : f32_R) (R_f34 : f34_R) (R_f35 : f35_R) (R_f31 : f31_R) (k : Nat) (K : Nat × Nat × (List CV) × (List CV) → Option X)   (rec1 : (List CV) × Int × Nat × Int × Int × (List CV) × Nat × (List CV) → Option X) (v6_1 : (List CV) × Int × Nat × Int × Int × (List CV) × Nat × (List CV)) : Option X :=
(bif (decide (v6_1.2.2.2.2.1 < v6_1.2.2.2.1)) then
grd (decide (0 ≤ v6_1.2.2.2.2.1)) <|
grd (decide (v6_1.2.2.2.2.1 < (Nat.cast (v6_1.2.2.2.2.2.2.1) : Int))) <|
Option.bind (v6_1.2.2.2.2.2.2.2)[(0 + (Int.toNat v6_1.2.2.2.2.1))]? fun e67 =>
Option.bind (CV.part e67 13 6) fun c68 =>
grd (CV.isA 6 c68) <|
grd (CV.isI .i64 (CV.cellD 0 c68)) <|
grd (CV.isI .i64 (CV.cellD 1 c68)) <|
grd (CV.isS (CV.cellD 2 c68)) <|
grd (CV.isL none (CV.cellD 3 c68)) <|
grd (CV.isI .i64 (CV.cellD 4 c68)) <|
grd (CV.isI .i64 (CV.cellD 5 c68)) <|
(bif (decide (v6_1.2.2.2.2.1 < (Nat.cast ((List.length v6_1.1)) : Int))) then
grd (decide (0 ≤ v6_1.2.2.2.2.1)) <|
Option.bind (v6_1.1)[(Int.toNat v6_1.2.2.2.2.1)]? fun e88 =>
grd (CV.isA 6 e88) <|
grd (CV.isI .i64 (CV.cellD 0 e88)) <|
grd (CV.isI .i64 (CV.cellD 1 e88)) <|
grd (CV.isS (CV.cellD 2 e88)) <|
grd (CV.isL none (CV.cellD 3 e88)) <|
grd (CV.isI .i64 (CV.cellD 4 e88)) <|
grd (CV.isI .i64 (CV.cellD 5 e88)) <|
f11_J2 R_f32 R_f34 R_f35 R_f31 k K rec1 v6_1 ((CV.toI (CV.cellD 0 e88)), (CV.toI (CV.cellD 1 e88)), (CV.toS (CV.cellD 2 e88)), (CV.toL (CV.cellD 3 e88)), (CV.toI (CV.cellD 4 e88)), (CV.toI (CV.cellD 5 e88)))
else
f11_J2 R_f32 R_f34 R_f35 R_f31 k K rec1 v6_1 ((CV.toI (CV.cellD 0 c68)), (CV.toI (CV.cellD 1 c68)), (CV.toS (CV.cellD 2 c68)), (CV.toL (CV.cellD 3 c68)), (CV.toI (CV.cellD 4 c68)), (CV.toI (CV.cellD 5 c68))))
else
K (v6_1.2.2.1, v6_1.2.2.2.2.2.2.1, (List.take (0 + v6_1.2.2.2.2.2.2.1) v6_1.2.2.2.2.2.2.2), (List.take (0 + v6_1.2.2.1) v6_1.2.2.2.2.2.1)))
def f11_L1 {X : Type} (R_f32 : f32_R) (R_f34 : f34_R) (R_f35 : f35_R) (R_f31 : f31_R) (k : Nat) (K : Nat × Nat × (List CV) × (List CV) → Option X)  (rec1 : (List CV) × Int × Nat × Int × Int × (List CV) × Nat × (List CV) → Option X) (v : (List CV) × Int × Nat × Int × Int × (List CV) × Nat × (List CV)) : Option X := f11_T1 R_f32 R_f34 R_f35 R_f31 k K   rec1 v
set_option maxRecDepth 100000 in
theorem f11_L1_ev {X : Type} (R_f32 : f32_R) (R_f34 : f34_R) (R_f35 : f35_R) (R_f31 : f31_R) (hR_f32 : AnsOk Try.prog 32 (f32_cOf R_f32)) (hR_f34 : AnsOk Try.prog 34 (f34_cOf R_f34)) (hR_f35 : AnsOk Try.prog 35 (f35_cOf R_f35)) (hR_f31 : AnsOk Try.prog 31 (f31_cOf R_f31)) (k : Nat) (K : Out → Option X)  (r1 : St → Option X) (v : (List CV) × Int × Nat × Int × Int × (List CV) × Nat × (List CV)) : loopB (f11_cx R_f32 R_f34 R_f35 R_f31 hR_f32 hR_f34 hR_f35 hR_f31) k [.r, .r, .r, .l, .r, .b] (Try.f11.body.getD .skip) (retK (f11_cx R_f32 R_f34 R_f35 R_f31 hR_f32 hR_f34 hR_f35 hR_f31) [] Try.f11.results.toList K) [] r1 (f11_S1 v) = f11_T1 R_f32 R_f34 R_f35 R_f31 k (fun u => K (f11_out u))   (fun v => r1 (f11_S1 v)) v := by kernel_rfl
theorem f11_L1_it {X : Type} (R_f32 : f32_R) (R_f34 : f34_R) (R_f35 : f35_R) (R_f31 : f31_R) (hR_f32 : AnsOk Try.prog 32 (f32_cOf R_f32)) (hR_f34 : AnsOk Try.prog 34 (f34_cOf R_f34)) (hR_f35 : AnsOk Try.prog 35 (f35_cOf R_f35)) (hR_f31 : AnsOk Try.prog 31 (f31_cOf R_f31)) (k : Nat) (K : Out → Option X)  : (fun v => iter (loopB (f11_cx R_f32 R_f34 R_f35 R_f31 hR_f32 hR_f34 hR_f35 hR_f31) k [.r, .r, .r, .l, .r, .b] (Try.f11.body.getD .skip) (retK (f11_cx R_f32 R_f34 R_f35 R_f31 hR_f32 hR_f34 hR_f35 hR_f31) [] Try.f11.results.toList K) []) k (f11_S1 v)) = iterV (f11_L1 R_f32 R_f34 R_f35 R_f31 k (fun u => K (f11_out u)) ) k :=
  iter_map (fun r1 v => (f11_L1_ev R_f32 R_f34 R_f35 R_f31 hR_f32 hR_f34 hR_f35 hR_f31 k K  r1 v).trans rfl) k
def f11_T {X : Type} (R_f32 : f32_R) (R_f34 : f34_R) (R_f35 : f35_R) (R_f31 : f31_R) (k : Nat) (K : Nat × Nat × (List CV) × (List CV) → Option X) (loop1 : (List CV) × Int × Nat × Int × Int × (List CV) × Nat × (List CV) → Option X) (x0 : List CV) (x1 : Int) (x2 : Nat) (x3 : List CV) : Option X :=
R_f32 _ (fun u1 =>
loop1 (x0, u1, 0, (Nat.cast (x2) : Int), 0, [], x2, x3)) (x1)
/-- "(*outpost/watch.Table).Due" -/
def f11_A (R_f32 : f32_R) (R_f34 : f34_R) (R_f35 : f35_R) (R_f31 : f31_R) (k : Nat) : f11_R := fun X K x0 x1 x2 x3 => f11_T R_f32 R_f34 R_f35 R_f31 k K (iterV (f11_L1 R_f32 R_f34 R_f35 R_f31 k K) k) x0 x1 x2 x3
set_option maxRecDepth 100000 in
theorem f11_ev' {X : Type} (R_f32 : f32_R) (R_f34 : f34_R) (R_f35 : f35_R) (R_f31 : f31_R) (hR_f32 : AnsOk Try.prog 32 (f32_cOf R_f32)) (hR_f34 : AnsOk Try.prog 34 (f34_cOf R_f34)) (hR_f35 : AnsOk Try.prog 35 (f35_cOf R_f35)) (hR_f31 : AnsOk Try.prog 31 (f31_cOf R_f31)) (k : Nat) (K : Out → Option X) (x0 : List CV) (x1 : Int) (x2 : Nat) (x3 : List CV) : evFn (f11_cx R_f32 R_f34 R_f35 R_f31 hR_f32 hR_f34 hR_f35 hR_f31) [] k Try.f11.ntmps Try.f11.results.toList (Try.f11.body.getD .skip) [(.ptr [1000] 0 0 0), (.sl false (some 6) x0), (.v (CV.int .i64 x1))] [([1000], (.obj [(.osl [0, 1000] (some 21) 0 x2)])), ([0, 1000], (.row false (some 21) x3))] K = f11_T R_f32 R_f34 R_f35 R_f31 k (fun u => K (f11_out u)) (fun v => iter (loopB (f11_cx R_f32 R_f34 R_f35 R_f31 hR_f32 hR_f34 hR_f35 hR_f31) k [.r, .r, .r, .l, .r, .b] (Try.f11.body.getD .skip) (retK (f11_cx R_f32 R_f34 R_f35 R_f31 hR_f32 hR_f34 hR_f35 hR_f31) [] Try.f11.results.toList K) []) k (f11_S1 v)) x0 x1 x2 x3 := by kernel_rfl
theorem f11_ev {X : Type} (R_f32 : f32_R) (R_f34 : f34_R) (R_f35 : f35_R) (R_f31 : f31_R) (hR_f32 : AnsOk Try.prog 32 (f32_cOf R_f32)) (hR_f34 : AnsOk Try.prog 34 (f34_cOf R_f34)) (hR_f35 : AnsOk Try.prog 35 (f35_cOf R_f35)) (hR_f31 : AnsOk Try.prog 31 (f31_cOf R_f31)) (k : Nat) (K : Out → Option X) (x0 : List CV) (x1 : Int) (x2 : Nat) (x3 : List CV) : evFn (f11_cx R_f32 R_f34 R_f35 R_f31 hR_f32 hR_f34 hR_f35 hR_f31) [] k Try.f11.ntmps Try.f11.results.toList (Try.f11.body.getD .skip) [(.ptr [1000] 0 0 0), (.sl false (some 6) x0), (.v (CV.int .i64 x1))] [([1000], (.obj [(.osl [0, 1000] (some 21) 0 x2)])), ([0, 1000], (.row false (some 21) x3))] K = f11_A R_f32 R_f34 R_f35 R_f31 k X (fun u => K (f11_out u)) x0 x1 x2 x3 := (f11_ev' R_f32 R_f34 R_f35 R_f31 hR_f32 hR_f34 hR_f35 hR_f31 k K x0 x1 x2 x3).trans (by rw [f11_L1_it R_f32 R_f34 R_f35 R_f31 hR_f32 hR_f34 hR_f35 hR_f31 k K]; rfl)
theorem f11_okA (R_f32 : f32_R) (R_f34 : f34_R) (R_f35 : f35_R) (R_f31 : f31_R) (hR_f32 : AnsOk Try.prog 32 (f32_cOf R_f32)) (hR_f34 : AnsOk Try.prog 34 (f34_cOf R_f34)) (hR_f35 : AnsOk Try.prog 35 (f35_cOf R_f35)) (hR_f31 : AnsOk Try.prog 31 (f31_cOf R_f31)) (k : Nat) : AnsOk Try.prog 11 (f11_cOf (f11_A R_f32 R_f34 R_f35 R_f31 k)) := by
  intro X xs ns K x h
  unfold f11_cOf at h ⊢
  split at h
  · exact ans_main S (f11_Cok R_f32 R_f34 R_f35 R_f31 hR_f32 hR_f34 hR_f35 hR_f31) Try.func11 (ent_of Try.func11 (by kernel_rfl) rfl) rfl (fun X K => f11_ev R_f32 R_f34 R_f35 R_f31 hR_f32 hR_f34 hR_f35 hR_f31 k K _ _ _ _) h
  · cases h
/-- "(*outpost/watch.Table).Due" -/
def f11 {X : Type} (k : Nat) (K : Nat × Nat × (List CV) × (List CV) → Option X) (x0 : List CV) (x1 : Int) (x2 : Nat) (x3 : List CV) : Option X := f11_A (fun X => @f32 X k) (fun X => @f34 X k) (fun X => @f35 X k) (fun X => @f31 X k) k X K x0 x1 x2 x3
theorem f11_ok (k : Nat) : AnsOk Try.prog 11 (f11_cOf (fun X => @f11 X k)) := f11_okA (fun X => @f32 X k) (fun X => @f34 X k) (fun X => @f35 X k) (fun X => @f31 X k) (f32_ok k) (f34_ok k) (f35_ok k) (f31_ok k) k
abbrev f29_R : Type 1 := (X : Type) → (Nat × Nat × (List CV) × (List CV) → Option X) → Nat → (List CV) → Option X
def f29_out (u : Nat × Nat × (List CV) × (List CV)) : Out := ⟨(.osl [2000] (some 21) 0 u.1), [([1000], (.obj [(.osl [0, 1000] (some 21) 0 u.2.1)])), ([0, 1000], (.row false (some 21) u.2.2.1)), ([2000], (.row false (some 21) u.2.2.2))]⟩
def f29_cOf (R : f29_R) : FnC := fun X xs ns K => match xs, ns with
  | [(.ptr [1000] 0 0 0)], [([1000], (.obj [(.osl [0, 1000] (some 21) 0 x0)])), ([0, 1000], (.row false (some 21) x1))] => R X (fun u => K (f29_out u)) x0 x1
  | _, _ => none
def f29_plan : Nat → Option (List Nat × List Wk)
  | 0 => some ([0], [])
  | 1 => some ([0], [])
  | 2 => some ([0, 3], [])
  | 3 => some ([3, 9, 10, 11], [⟨3, [], some [3]⟩])
  | 4 => some ([3, 9, 10, 11], [])
  | 5 => some ([3, 5, 9, 10, 11], [])
  | 6 => some ([3, 9, 10, 11], [])
  | 7 => some ([3], [])
  | _ => none
def f29_C (R_f31 : f31_R) : Fns := (orC 31 (f31_cOf R_f31) noC)
theorem f29_Cok (R_f31 : f31_R) (hR_f31 : AnsOk Try.prog 31 (f31_cOf R_f31)) : CsOk Try.prog (f29_C R_f31) := (orC_ok hR_f31 noC_ok)
def f29_cx (R_f31 : f31_R) (hR_f31 : AnsOk Try.prog 31 (f31_cOf R_f31)) : Cx := mkCx (tabOf rows) (f29_C R_f31) md (cmpIn cmps) f29_plan (f29_Cok R_f31 hR_f31)
def f29_S1 (v : Nat × Nat × Int × Int × (List CV) × Nat × (List CV)) : St := ⟨[.undef, .undef, .undef, (.osl [3] (some 21) 0 v.1), .undef, .undef, .undef, .undef, .undef, (.osl [0, 1000] (some 21) 0 v.2.1), (.v (CV.int .i64 v.2.2.1)), (.v (CV.int .i64 v.2.2.2.1)), .undef, .undef, .undef, .undef, .undef, .undef, .undef, .undef, .undef, .undef], [([3], (.row false (some 21) v.2.2.2.2.1)), ([1000], (.obj [(.osl [0, 1000] (some 21) 0 v.2.2.2.2.2.1)])), ([0, 1000], (.row false (some 21) v.2.2.2.2.2.2))]⟩
def f29_T1 {X : Type} (R_f31 : f31_R) (k : Nat) (K : Nat × Nat × (List CV) × (List CV) → Option X)   (rec1 : Nat × Nat × Int × Int × (List CV) × Nat × (List CV) → Option X) (v5_0 : Nat × Nat × Int × Int × (List CV) × Nat × (List CV)) : Option X :=
(bif (decide (v5_0.2.2.2.1 < v5_0.2.2.1)) then
grd (decide (0 ≤ v5_0.2.2.2.1)) <|
grd (decide (v5_0.2.2.2.1 < (Nat.cast (v5_0.2.1) : Int))) <|
Option.bind (v5_0.2.2.2.2.2.2)[(0 + (Int.toNat v5_0.2.2.2.1))]? fun e8 =>
grd (CV.isA 21 e8) <|
grd (CV.isI .i64 (CV.cellD 0 e8)) <|
grd (CV.isL none (CV.cellD 1 e8)) <|
grd (CV.isL none (CV.cellD 2 e8)) <|
grd (CV.isI .i64 (CV.cellD 3 e8)) <|
grd (CV.isI .i64 (CV.cellD 4 e8)) <|
grd (CV.isB (CV.cellD 5 e8)) <|
grd (CV.isB (CV.cellD 6 e8)) <|
grd (CV.isI .i64 (CV.cellD 7 e8)) <|
grd (CV.isI .i64 (CV.cellD 8 e8)) <|
grd (CV.isI .i64 (CV.cellD 9 e8)) <|
grd (CV.isB (CV.cellD 10 e8)) <|
grd (CV.isB (CV.cellD 11 e8)) <|
grd (CV.isB (CV.cellD 12 e8)) <|
grd (CV.isI .i64 (CV.cellD 13 e8)) <|
grd (CV.isI .i64 (CV.cellD 14 e8)) <|
grd (CV.isS (CV.cellD 15 e8)) <|
grd (CV.isL none (CV.cellD 16 e8)) <|
grd (CV.isI .i64 (CV.cellD 17 e8)) <|
grd (CV.isI .i64 (CV.cellD 18 e8)) <|
grd (CV.isI .i64 (CV.cellD 19 e8)) <|
grd (CV.isI .i64 (CV.cellD 20 e8)) <|
R_f31 _ (fun u9 =>
grd (decide ((v5_0.1 + (List.length (List.take 1 (List.drop 0 [(CV.agg [(CV.int .i64 u9.1), (CV.slc none (List.take u9.2.1 (List.drop 0 u9.2.2.2.2.2.2.2.2.2.2.2.2.2.2.2.2.2.2.2.2.2.1))), (CV.slc none (List.take u9.2.2.1 (List.drop 0 u9.2.2.2.2.2.2.2.2.2.2.2.2.2.2.2.2.2.2.2.2.2.2.1))), (CV.int .i64 u9.2.2.2.1), (CV.int .i64 u9.2.2.2.2.1), (CV.bool u9.2.2.2.2.2.1), (CV.bool u9.2.2.2.2.2.2.1), (CV.int .i64 u9.2.2.2.2.2.2.2.1), (CV.int .i64 u9.2.2.2.2.2.2.2.2.1), (CV.int .i64 u9.2.2.2.2.2.2.2.2.2.1), (CV.bool u9.2.2.2.2.2.2.2.2.2.2.1), (CV.bool u9.2.2.2.2.2.2.2.2.2.2.2.1), (CV.bool u9.2.2.2.2.2.2.2.2.2.2.2.2.1), (CV.int .i64 u9.2.2.2.2.2.2.2.2.2.2.2.2.2.1), (CV.int .i64 u9.2.2.2.2.2.2.2.2.2.2.2.2.2.2.1), (CV.str u9.2.2.2.2.2.2.2.2.2.2.2.2.2.2.2.1), (CV.slc none (List.take u9.2.2.2.2.2.2.2.2.2.2.2.2.2.2.2.2.1 (List.drop 0 u9.2.2.2.2.2.2.2.2.2.2.2.2.2.2.2.2.2.2.2.2.2.2.2))), (CV.int .i64 u9.2.2.2.2.2.2.2.2.2.2.2.2.2.2.2.2.2.1), (CV.int .i64 u9.2.2.2.2.2.2.2.2.2.2.2.2.2.2.2.2.2.2.1), (CV.int .i64 u9.2.2.2.2.2.2.2.2.2.2.2.2.2.2.2.2.2.2.2.1), (CV.int .i64 u9.2.2.2.2.2.2.2.2.2.2.2.2.2.2.2.2.2.2.2.2.1)])])))) * 200 ≤ 140737488355328)) <|
rec1 ((v5_0.1 + (List.length (List.take 1 (List.drop 0 [(CV.agg [(CV.int .i64 u9.1), (CV.slc none (List.take u9.2.1 (List.drop 0 u9.2.2.2.2.2.2.2.2.2.2.2.2.2.2.2.2.2.2.2.2.2.1))), (CV.slc none (List.take u9.2.2.1 (List.drop 0 u9.2.2.2.2.2.2.2.2.2.2.2.2.2.2.2.2.2.2.2.2.2.2.1))), (CV.int .i64 u9.2.2.2.1), (CV.int .i64 u9.2.2.2.2.1), (CV.bool u9.2.2.2.2.2.1), (CV.bool u9.2.2.2.2.2.2.1), (CV.int .i64 u9.2.2.2.2.2.2.2.1), (CV.int .i64 u9.2.2.2.2.2.2.2.2.1), (CV.int .i64 u9.2.2.2.2.2.2.2.2.2.1), (CV.bool u9.2.2.2.2.2.2.2.2.2.2.1), (CV.bool u9.2.2.2.2.2.2.2.2.2.2.2.1), (CV.bool u9.2.2.2.2.2.2.2.2.2.2.2.2.1), (CV.int .i64 u9.2.2.2.2.2.2.2.2.2.2.2.2.2.1), (CV.int .i64 u9.2.2.2.2.2.2.2.2.2.2.2.2.2.2.1), (CV.str u9.2.2.2.2.2.2.2.2.2.2.2.2.2.2.2.1), (CV.slc none (List.take u9.2.2.2.2.2.2.2.2.2.2.2.2.2.2.2.2.1 (List.drop 0 u9.2.2.2.2.2.2.2.2.2.2.2.2.2.2.2.2.2.2.2.2.2.2.2))), (CV.int .i64 u9.2.2.2.2.2.2.2.2.2.2.2.2.2.2.2.2.2.1), (CV.int .i64 u9.2.2.2.2.2.2.2.2.2.2.2.2.2.2.2.2.2.2.1), (CV.int .i64 u9.2.2.2.2.2.2.2.2.2.2.2.2.2.2.2.2.2.2.2.1), (CV.int .i64 u9.2.2.2.2.2.2.2.2.2.2.2.2.2.2.2.2.2.2.2.2.1)])])))), v5_0.2.1, v5_0.2.2.1, (IntKind.wrap .i64 (v5_0.2.2.2.1 + 1)), ((List.take v5_0.1 v5_0.2.2.2.2.1) ++ (List.take 1 (List.drop 0 [(CV.agg [(CV.int .i64 u9.1), (CV.slc none (List.take u9.2.1 (List.drop 0 u9.2.2.2.2.2.2.2.2.2.2.2.2.2.2.2.2.2.2.2.2.2.1))), (CV.slc none (List.take u9.2.2.1 (List.drop 0 u9.2.2.2.2.2.2.2.2.2.2.2.2.2.2.2.2.2.2.2.2.2.2.1))), (CV.int .i64 u9.2.2.2.1), (CV.int .i64 u9.2.2.2.2.1), (CV.bool u9.2.2.2.2.2.1), (CV.bool u9.2.2.2.2.2.2.1), (CV.int .i64 u9.2.2.2.2.2.2.2.1), (CV.int .i64 u9.2.2.2.2.2.2.2.2.1), (CV.int .i64 u9.2.2.2.2.2.2.2.2.2.1), (CV.bool u9.2.2.2.2.2.2.2.2.2.2.1), (CV.bool u9.2.2.2.2.2.2.2.2.2.2.2.1), (CV.bool u9.2.2.2.2.2.2.2.2.2.2.2.2.1), (CV.int .i64 u9.2.2.2.2.2.2.2.2.2.2.2.2.2.1), (CV.int .i64 u9.2.2.2.2.2.2.2.2.2.2.2.2.2.2.1), (CV.str u9.2.2.2.2.2.2.2.2.2.2.2.2.2.2.2.1), (CV.slc none (List.take u9.2.2.2.2.2.2.2.2.2.2.2.2.2.2.2.2.1 (List.drop 0 u9.2.2.2.2.2.2.2.2.2.2.2.2.2.2.2.2.2.2.2.2.2.2.2))), (CV.int .i64 u9.2.2.2.2.2.2.2.2.2.2.2.2.2.2.2.2.2.1), (CV.int .i64 u9.2.2.2.2.2.2.2.2.2.2.2.2.2.2.2.2.2.2.1), (CV.int .i64 u9.2.2.2.2.2.2.2.2.2.2.2.2.2.2.2.2.2.2.2.1), (CV.int .i64 u9.2.2.2.2.2.2.2.2.2.2.2.2.2.2.2.2.2.2.2.2.1)])]))), v5_0.2.2.2.2.2.1, v5_0.2.2.2.2.2.2)) ((CV.agg [(CV.int .i64 (CV.toI (CV.cellD 0 e8))), (CV.slc none (CV.toL (CV.cellD 1 e8))), (CV.slc none (CV.toL (CV.cellD 2 e8))), (CV.int .i64 (CV.toI (CV.cellD 3 e8))), (CV.int .i64 (CV.toI (CV.cellD 4 e8))), (CV.bool (CV.toB (CV.cellD 5 e8))), (CV.bool (CV.toB (CV.cellD 6 e8))), (CV.int .i64 (CV.toI (CV.cellD 7 e8))), (CV.int .i64 (CV.toI (CV.cellD 8 e8))), (CV.int .i64 (CV.toI (CV.cellD 9 e8))), (CV.bool (CV.toB (CV.cellD 10 e8))), (CV.bool (CV.toB (CV.cellD 11 e8))), (CV.bool (CV.toB (CV.cellD 12 e8))), (CV.int .i64 (CV.toI (CV.cellD 13 e8))), (CV.int .i64 (CV.toI (CV.cellD 14 e8))), (CV.str (CV.toS (CV.cellD 15 e8))), (CV.slc none (CV.toL (CV.cellD 16 e8))), (CV.int .i64 (CV.toI (CV.cellD 17 e8))), (CV.int .i64 (CV.toI (CV.cellD 18 e8))), (CV.int .i64 (CV.toI (CV.cellD 19 e8))), (CV.int .i64 (CV.toI (CV.cellD 20 e8)))]))
else
K (v5_0.1, v5_0.2.2.2.2.2.1, (List.take (0 + v5_0.2.2.2.2.2.1) v5_0.2.2.2.2.2.2), (List.take (0 + v5_0.1) v5_0.2.2.2.2.1)))
def f29_L1 {X : Type} (R_f31 : f31_R) (k : Nat) (K : Nat × Nat × (List CV) × (List CV) → Option X)  (rec1 : Nat × Nat × Int × Int × (List CV) × Nat × (List CV) → Option X) (v : Nat × Nat × Int × Int × (List CV) × Nat × (List CV)) : Option X := f29_T1 R_f31 k K   rec1 v
set_option maxRecDepth 100000 in
theorem f29_L1_ev {X : Type} (R_f31 : f31_R) (hR_f31 : AnsOk Try.prog 31 (f31_cOf R_f31)) (k : Nat) (K : Out → Option X)  (r1 : St → Option X) (v : Nat × Nat × Int × Int × (List CV) × Nat × (List CV)) : loopB (f29_cx R_f31 hR_f31) k [.r, .r, .l, .r, .b] (Try.f29.body.getD .skip) (retK (f29_cx R_f31 hR_f31) [] Try.f29.results.toList K) [] r1 (f29_S1 v) = f29_T1 R_f31 k (fun u => K (f29_out u))   (fun v => r1 (f29_S1 v)) v := by kernel_rfl
theorem f29_L1_it {X : Type} (R_f31 : f31_R) (hR_f31 : AnsOk Try.prog 31 (f31_cOf R_f31)) (k : Nat) (K : Out → Option X)  : (fun v => iter (loopB (f29_cx R_f31 hR_f31) k [.r, .r, .l, .r, .b] (Try.f29.body.getD .skip) (retK (f29_cx R_f31 hR_f31) [] Try.f29.results.toList K) []) k (f29_S1 v)) = iterV (f29_L1 R_f31 k (fun u => K (f29_out u)) ) k :=
  iter_map (fun r1 v => (f29_L1_ev R_f31 hR_f31 k K  r1 v).trans rfl) k
def f29_T {X : Type} (R_f31 : f31_R) (k : Nat) (K : Nat × Nat × (List CV) × (List CV) → Option X) (loop1 : Nat × Nat × Int × Int × (List CV) × Nat × (List CV) → Option X) (x0 : Nat) (x1 : List CV) : Option X :=
loop1 (0, x0, (Nat.cast (x0) : Int), 0, [], x0, x1)
/-- "(*outpost/watch.Table).All" -/
def f29_A (R_f31 : f31_R) (k : Nat) : f29_R := fun X K x0 x1 => f29_T R_f31 k K (iterV (f29_L1 R_f31 k K) k) x0 x1
set_option maxRecDepth 100000 in
theorem f29_ev' {X : Type} (R_f31 : f31_R) (hR_f31 : AnsOk Try.prog 31 (f31_cOf R_f31)) (k : Nat) (K : Out → Option X) (x0 : Nat) (x1 : List CV) : evFn (f29_cx R_f31 hR_f31) [] k Try.f29.ntmps Try.f29.results.toList (Try.f29.body.getD .skip) [(.ptr [1000] 0 0 0)] [([1000], (.obj [(.osl [0, 1000] (some 21) 0 x0)])), ([0, 1000], (.row false (some 21) x1))] K = f29_T R_f31 k (fun u => K (f29_out u)) (fun v => iter (loopB (f29_cx R_f31 hR_f31) k [.r, .r, .l, .r, .b] (Try.f29.body.getD .skip) (retK (f29_cx R_f31 hR_f31) [] Try.f29.results.toList K) []) k (f29_S1 v)) x0 x1 := by kernel_rfl
theorem f29_ev {X : Type} (R_f31 : f31_R) (hR_f31 : AnsOk Try.prog 31 (f31_cOf R_f31)) (k : Nat) (K : Out → Option X) (x0 : Nat) (x1 : List CV) : evFn (f29_cx R_f31 hR_f31) [] k Try.f29.ntmps Try.f29.results.toList (Try.f29.body.getD .skip) [(.ptr [1000] 0 0 0)] [([1000], (.obj [(.osl [0, 1000] (some 21) 0 x0)])), ([0, 1000], (.row false (some 21) x1))] K = f29_A R_f31 k X (fun u => K (f29_out u)) x0 x1 := (f29_ev' R_f31 hR_f31 k K x0 x1).trans (by rw [f29_L1_it R_f31 hR_f31 k K]; rfl)
theorem f29_okA (R_f31 : f31_R) (hR_f31 : AnsOk Try.prog 31 (f31_cOf R_f31)) (k : Nat) : AnsOk Try.prog 29 (f29_cOf (f29_A R_f31 k)) := by
  intro X xs ns K x h
  unfold f29_cOf at h ⊢
  split at h
  · exact ans_main S (f29_Cok R_f31 hR_f31) Try.func29 (ent_of Try.func29 (by kernel_rfl) rfl) rfl (fun X K => f29_ev R_f31 hR_f31 k K _ _) h
  · cases h
/-- "(*outpost/watch.Table).All" -/
def f29 {X : Type} (k : Nat) (K : Nat × Nat × (List CV) × (List CV) → Option X) (x0 : Nat) (x1 : List CV) : Option X := f29_A (fun X => @f31 X k) k X K x0 x1
theorem f29_ok (k : Nat) : AnsOk Try.prog 29 (f29_cOf (fun X => @f29 X k)) := f29_okA (fun X => @f31 X k) (f31_ok k) k
abbrev f28_R : Type 1 := (X : Type) → (Int × Nat × (List CV) → Option X) → Nat → (List CV) → Option X
def f28_out (u : Int × Nat × (List CV)) : Out := ⟨(.v (CV.int .i64 u.1)), [([1000], (.obj [(.osl [0, 1000] (some 21) 0 u.2.1)])), ([0, 1000], (.row false (some 21) u.2.2))]⟩
def f28_cOf (R : f28_R) : FnC := fun X xs ns K => match xs, ns with
  | [(.ptr [1000] 0 0 0)], [([1000], (.obj [(.osl [0, 1000] (some 21) 0 x0)])), ([0, 1000], (.row false (some 21) x1))] => R X (fun u => K (f28_out u)) x0 x1
  | _, _ => none
def f28_plan : Nat → Option (List Nat × List Wk)
  | 0 => some ([0], [])
  | 1 => some ([0], [])
  | _ => none
def f28_C : Fns := noC
theorem f28_Cok : CsOk Try.prog (f28_C) := noC_ok
def f28_cx : Cx := mkCx (tabOf rows) (f28_C) md (cmpIn cmps) f28_plan (f28_Cok)
def f28_T {X : Type} (k : Nat) (K : Int × Nat × (List CV) → Option X)  (x0 : Nat) (x1 : List CV) : Option X :=
K ((Nat.cast (x0) : Int), x0, (List.take (0 + x0) x1))
/-- "(*outpost/watch.Table).Len" -/
def f28_A (k : Nat) : f28_R := fun X K x0 x1 => f28_T k K  x0 x1
set_option maxRecDepth 100000 in
theorem f28_ev' {X : Type} (k : Nat) (K : Out → Option X) (x0 : Nat) (x1 : List CV) : evFn (f28_cx) [] k Try.f28.ntmps Try.f28.results.toList (Try.f28.body.getD .skip) [(.ptr [1000] 0 0 0)] [([1000], (.obj [(.osl [0, 1000] (some 21) 0 x0)])), ([0, 1000], (.row false (some 21) x1))] K = f28_T k (fun u => K (f28_out u)) x0 x1 := by kernel_rfl
theorem f28_ev {X : Type} (k : Nat) (K : Out → Option X) (x0 : Nat) (x1 : List CV) : evFn (f28_cx) [] k Try.f28.ntmps Try.f28.results.toList (Try.f28.body.getD .skip) [(.ptr [1000] 0 0 0)] [([1000], (.obj [(.osl [0, 1000] (some 21) 0 x0)])), ([0, 1000], (.row false (some 21) x1))] K = f28_A k X (fun u => K (f28_out u)) x0 x1 := (f28_ev' k K x0 x1).trans rfl
theorem f28_okA (k : Nat) : AnsOk Try.prog 28 (f28_cOf (f28_A k)) := by
  intro X xs ns K x h
  unfold f28_cOf at h ⊢
  split at h
  · exact ans_main S (f28_Cok) Try.func28 (ent_of Try.func28 (by kernel_rfl) rfl) rfl (fun X K => f28_ev k K _ _) h
  · cases h
/-- "(*outpost/watch.Table).Len" -/
def f28 {X : Type} (k : Nat) (K : Int × Nat × (List CV) → Option X) (x0 : Nat) (x1 : List CV) : Option X := f28_A k X K x0 x1
theorem f28_ok (k : Nat) : AnsOk Try.prog 28 (f28_cOf (fun X => @f28 X k)) := f28_okA k
abbrev f44_R : Type 1 := (X : Type) → (Bool → Option X) → (List CV) → (List CV) → Option X
def f44_out (u : Bool) : Out := ⟨(.v (CV.bool u)), []⟩
def f44_cOf (R : f44_R) : FnC := fun X xs ns K => match xs, ns with
  | [(.sl false none x0), (.sl false none x1)], [] => R X (fun u => K (f44_out u)) x0 x1
  | _, _ => none
def f44_plan : Nat → Option (List Nat × List Wk)
  | 0 => some ([0, 1], [])
  | 1 => some ([0, 1], [])
  | 2 => some ([], [])
  | 3 => some ([0, 1], [])
  | 4 => some ([0, 1, 12, 13], [])
  | 5 => some ([0, 1, 12, 13], [])
  | 6 => some ([0, 1, 5, 12, 13], [])
  | 7 => some ([], [])
  | 8 => some ([0, 1, 12, 13], [])
  | 9 => some ([], [])
  | _ => none
def f44_C : Fns := noC
theorem f44_Cok : CsOk Try.prog (f44_C) := noC_ok
def f44_cx : Cx := mkCx (tabOf rows) (f44_C) md (cmpIn cmps) f44_plan (f44_Cok)
def f44_S1 (v : (List CV) × (List CV) × Int × Int) : St := ⟨[(.sl false none v.1), (.sl false none v.2.1), .undef, .undef, .undef, .undef, .undef, .undef, .undef, .undef, .undef, .undef, (.v (CV.int .i64 v.2.2.1)), (.v (CV.int .i64 v.2.2.2)), .undef, .undef, .undef, .undef, .undef, .undef, .undef, .undef, .undef, .undef, .undef, .undef], []⟩
def f44_T1 {X : Type} (k : Nat) (K : Bool → Option X)   (rec1 : (List CV) × (List CV) × Int × Int → Option X) (v5_0 : (List CV) × (List CV) × Int × Int) : Option X :=
(bif (decide (v5_0.2.2.2 < v5_0.2.2.1)) then
grd (decide (0 ≤ v5_0.2.2.2)) <|
Option.bind (v5_0.1)[(Int.toNat v5_0.2.2.2)]? fun e8 =>
grd (CV.isI .i64 e8) <|
grd (decide (0 ≤ v5_0.2.2.2)) <|
Option.bind (v5_0.2.1)[(Int.toNat v5_0.2.2.2)]? fun e9 =>
grd (CV.isI .i64 e9) <|
(bif ((CV.toI e8) != (CV.toI e9)) then
K (false)
else
rec1 (v5_0.1, v5_0.2.1, v5_0.2.2.1, (IntKind.wrap .i64 (v5_0.2.2.2 + 1))))
else
K (true))
def f44_L1 {X : Type} (k : Nat) (K : Bool → Option X)  (rec1 : (List CV) × (List CV) × Int × Int → Option X) (v : (List CV) × (List CV) × Int × Int) : Option X := f44_T1 k K   rec1 v
set_option maxRecDepth 100000 in
theorem f44_L1_ev {X : Type} (k : Nat) (K : Out → Option X)  (r1 : St → Option X) (v : (List CV) × (List CV) × Int × Int) : loopB (f44_cx) k [.r, .r, .l, .r, .b] (Try.f44.body.getD .skip) (retK (f44_cx) [] Try.f44.results.toList K) [] r1 (f44_S1 v) = f44_T1 k (fun u => K (f44_out u))   (fun v => r1 (f44_S1 v)) v := by kernel_rfl
theorem f44_L1_it {X : Type} (k : Nat) (K : Out → Option X)  : (fun v => iter (loopB (f44_cx) k [.r, .r, .l, .r, .b] (Try.f44.body.getD .skip) (retK (f44_cx) [] Try.f44.results.toList K) []) k (f44_S1 v)) = iterV (f44_L1 k (fun u => K (f44_out u)) ) k :=
  iter_map (fun r1 v => (f44_L1_ev k K  r1 v).trans rfl) k
def f44_T {X : Type} (k : Nat) (K : Bool → Option X) (loop1 : (List CV) × (List CV) × Int × Int → Option X) (x0 : List CV) (x1 : List CV) : Option X :=
(bif ((Nat.cast ((List.length x0)) : Int) != (Nat.cast ((List.length x1)) : Int)) then
K (false)
else
loop1 (x0, x1, (Nat.cast ((List.length x0)) : Int), 0))
/-- "slices.Equal[[]int,int]" -/
def f44_A (k : Nat) : f44_R := fun X K x0 x1 => f44_T k K (iterV (f44_L1 k K) k) x0 x1
set_option maxRecDepth 100000 in
theorem f44_ev' {X : Type} (k : Nat) (K : Out → Option X) (x0 : List CV) (x1 : List CV) : evFn (f44_cx) [] k Try.f44.ntmps Try.f44.results.toList (Try.f44.body.getD .skip) [(.sl false none x0), (.sl false none x1)] [] K = f44_T k (fun u => K (f44_out u)) (fun v => iter (loopB (f44_cx) k [.r, .r, .l, .r, .b] (Try.f44.body.getD .skip) (retK (f44_cx) [] Try.f44.results.toList K) []) k (f44_S1 v)) x0 x1 := by kernel_rfl
theorem f44_ev {X : Type} (k : Nat) (K : Out → Option X) (x0 : List CV) (x1 : List CV) : evFn (f44_cx) [] k Try.f44.ntmps Try.f44.results.toList (Try.f44.body.getD .skip) [(.sl false none x0), (.sl false none x1)] [] K = f44_A k X (fun u => K (f44_out u)) x0 x1 := (f44_ev' k K x0 x1).trans (by rw [f44_L1_it k K]; rfl)
theorem f44_okA (k : Nat) : AnsOk Try.prog 44 (f44_cOf (f44_A k)) := by
  intro X xs ns K x h
  unfold f44_cOf at h ⊢
  split at h
  · exact ans_main S (f44_Cok) Try.func44 (ent_of Try.func44 (by kernel_rfl) rfl) rfl (fun X K => f44_ev k K _ _) h
  · cases h
/-- "slices.Equal[[]int,int]" -/
def f44 {X : Type} (k : Nat) (K : Bool → Option X) (x0 : List CV) (x1 : List CV) : Option X := f44_A k X K x0 x1
theorem f44_ok (k : Nat) : AnsOk Try.prog 44 (f44_cOf (fun X => @f44 X k)) := f44_okA k
abbrev f43_R : Type 1 := (X : Type) → (Bool → Option X) → CV → (List CV) → Option X
def f43_out (u : Bool) : Out := ⟨(.v (CV.bool u)), []⟩
def f43_cOf (R : f43_R) : FnC := fun X xs ns K => match xs, ns with
  | [(.v x0), (.bptr none (CV.slc none x1) 0)], [] => R X (fun u => K (f43_out u)) x0 x1
  | _, _ => none
def f43_plan : Nat → Option (List Nat × List Wk)
  | 0 => some ([0, 1], [])
  | 1 => some ([1, 2], [])
  | _ => none
def f43_C (R_f44 : f44_R) : Fns := (orC 44 (f44_cOf R_f44) noC)
theorem f43_Cok (R_f44 : f44_R) (hR_f44 : AnsOk Try.prog 44 (f44_cOf R_f44)) : CsOk Try.prog (f43_C R_f44) := (orC_ok hR_f44 noC_ok)
def f43_cx (R_f44 : f44_R) (hR_f44 : AnsOk Try.prog 44 (f44_cOf R_f44)) : Cx := mkCx (tabOf rows) (f43_C R_f44) md (cmpIn cmps) f43_plan (f43_Cok R_f44 hR_f44)
def f43_T {X : Type} (R_f44 : f44_R) (k : Nat) (K : Bool → Option X)  (x0 : CV) (x1 : List CV) : Option X :=
grd (CV.isA 21 x0) <|
grd (CV.isI .i64 (CV.cellD 0 x0)) <|
grd (CV.isL none (CV.cellD 1 x0)) <|
grd (CV.isL none (CV.cellD 2 x0)) <|
grd (CV.isI .i64 (CV.cellD 3 x0)) <|
grd (CV.isI .i64 (CV.cellD 4 x0)) <|
grd (CV.isB (CV.cellD 5 x0)) <|
grd (CV.isB (CV.cellD 6 x0)) <|
grd (CV.isI .i64 (CV.cellD 7 x0)) <|
grd (CV.isI .i64 (CV.cellD 8 x0)) <|
grd (CV.isI .i64 (CV.cellD 9 x0)) <|
grd (CV.isB (CV.cellD 10 x0)) <|
grd (CV.isB (CV.cellD 11 x0)) <|
grd (CV.isB (CV.cellD 12 x0)) <|
grd (CV.isI .i64 (CV.cellD 13 x0)) <|
grd (CV.isI .i64 (CV.cellD 14 x0)) <|
grd (CV.isS (CV.cellD 15 x0)) <|
grd (CV.isL none (CV.cellD 16 x0)) <|
grd (CV.isI .i64 (CV.cellD 17 x0)) <|
grd (CV.isI .i64 (CV.cellD 18 x0)) <|
grd (CV.isI .i64 (CV.cellD 19 x0)) <|
grd (CV.isI .i64 (CV.cellD 20 x0)) <|
(bif (decide ((Nat.cast ((List.length (CV.toL (CV.cellD 2 x0)))) : Int) ≥ (Nat.cast ((List.length x1)) : Int))) then
grd (decide ((Nat.cast ((List.length x1)) : Int) ≤ (Nat.cast ((List.length (CV.toL (CV.cellD 2 x0)))) : Int))) <|
R_f44 _ (fun u1 =>
K (u1)) ((List.take ((List.length x1) - 0) (List.drop 0 (CV.toL (CV.cellD 2 x0))))) (x1)
else
K (false))
/-- "(*outpost/watch.Table).DropPath$1" -/
def f43_A (R_f44 : f44_R) (k : Nat) : f43_R := fun X K x0 x1 => f43_T R_f44 k K  x0 x1
set_option maxRecDepth 100000 in
theorem f43_ev' {X : Type} (R_f44 : f44_R) (hR_f44 : AnsOk Try.prog 44 (f44_cOf R_f44)) (k : Nat) (K : Out → Option X) (x0 : CV) (x1 : List CV) : evFn (f43_cx R_f44 hR_f44) [] k Try.f43.ntmps Try.f43.results.toList (Try.f43.body.getD .skip) [(.v x0), (.bptr none (CV.slc none x1) 0)] [] K = f43_T R_f44 k (fun u => K (f43_out u)) x0 x1 := by kernel_rfl
theorem f43_ev {X : Type} (R_f44 : f44_R) (hR_f44 : AnsOk Try.prog 44 (f44_cOf R_f44)) (k : Nat) (K : Out → Option X) (x0 : CV) (x1 : List CV) : evFn (f43_cx R_f44 hR_f44) [] k Try.f43.ntmps Try.f43.results.toList (Try.f43.body.getD .skip) [(.v x0), (.bptr none (CV.slc none x1) 0)] [] K = f43_A R_f44 k X (fun u => K (f43_out u)) x0 x1 := (f43_ev' R_f44 hR_f44 k K x0 x1).trans rfl
theorem f43_okA (R_f44 : f44_R) (hR_f44 : AnsOk Try.prog 44 (f44_cOf R_f44)) (k : Nat) : AnsOk Try.prog 43 (f43_cOf (f43_A R_f44 k)) := by
  intro X xs ns K x h
  unfold f43_cOf at h ⊢
  split at h
  · exact ans_main S (f43_Cok R_f44 hR_f44) Try.func43 (ent_of Try.func43 (by kernel_rfl) rfl) rfl (fun X K => f43_ev R_f44 hR_f44 k K _ _) h
  · cases h
/-- "(*outpost/watch.Table).DropPath$1" -/
def f43 {X : Type} (k : Nat) (K : Bool → Option X) (x0 : CV) (x1 : List CV) : Option X := f43_A (fun X => @f44 X k) k X K x0 x1
theorem f43_ok (k : Nat) : AnsOk Try.prog 43 (f43_cOf (fun X => @f43 X k)) := f43_okA (fun X => @f44 X k) (f44_ok k) k
abbrev f48b_R : Type 1 := (X : Type) → (Int → Option X) → (List CV) → (List CV) → Option X
def f48b_out (u : Int) : Out := ⟨(.v (CV.int .i64 u)), []⟩
def f48b_cOf (R : f48b_R) : FnC := fun X xs ns K => match xs, ns with
  | [(.sl false (some 21) x0), (.fn 43 [(.bptr none (CV.slc none x1) 0)])], [] => R X (fun u => K (f48b_out u)) x0 x1
  | _, _ => none
def f48b_is (xs : List AVal) (ns : Nodes) : Bool := match xs, ns with
  | [(.sl false (some 21) x0), (.fn 43 [(.bptr none (CV.slc none x1) 0)])], [] => true
  | _, _ => false
def f48b_plan : Nat → Option (List Nat × List Wk)
  | 0 => some ([0, 1], [])
  | 1 => some ([0, 1], [])
  | 2 => some ([0, 1, 7, 8], [])
  | 3 => some ([0, 1, 7, 8], [])
  | 4 => some ([0, 1, 5, 7, 8], [])
  | 5 => some ([5], [])
  | 6 => some ([0, 1, 7, 8], [])
  | 7 => some ([], [])
  | _ => none
def f48b_C (R_f43 : f43_R) : Fns := (orC 43 (f43_cOf R_f43) noC)
theorem f48b_Cok (R_f43 : f43_R) (hR_f43 : AnsOk Try.prog 43 (f43_cOf R_f43)) : CsOk Try.prog (f48b_C R_f43) := (orC_ok hR_f43 noC_ok)
def f48b_cx (R_f43 : f43_R) (hR_f43 : AnsOk Try.prog 43 (f43_cOf R_f43)) : Cx := mkCx (tabOf rows) (f48b_C R_f43) md (cmpIn cmps) f48b_plan (f48b_Cok R_f43 hR_f43)
def f48b_S1 (v : (List CV) × (List CV) × Int × Int) : St := ⟨[(.sl false (some 21) v.1), (.fn 43 [(.bptr none (CV.slc none v.2.1) 0)]), .undef, .undef, .undef, .undef, .undef, (.v (CV.int .i64 v.2.2.1)), (.v (CV.int .i64 v.2.2.2)), .undef, .undef, .undef, .undef, .undef, .undef, .undef, .undef, .undef, .undef], []⟩
def f48b_T1 {X : Type} (R_f43 : f43_R) (k : Nat) (K : Int → Option X)   (rec1 : (List CV) × (List CV) × Int × Int → Option X) (v4_0 : (List CV) × (List CV) × Int × Int) : Option X :=
(bif (decide (v4_0.2.2.2 < v4_0.2.2.1)) then
grd (decide (0 ≤ v4_0.2.2.2)) <|
Option.bind (v4_0.1)[(Int.toNat v4_0.2.2.2)]? fun e8 =>
R_f43 _ (fun u9 =>
(bif u9 then
K (v4_0.2.2.2)
else
rec1 (v4_0.1, v4_0.2.1, v4_0.2.2.1, (IntKind.wrap .i64 (v4_0.2.2.2 + 1))))) (e8) (v4_0.2.1)
else
K ((-1)))
def f48b_L1 {X : Type} (R_f43 : f43_R) (k : Nat) (K : Int → Option X)  (rec1 : (List CV) × (List CV) × Int × Int → Option X) (v : (List CV) × (List CV) × Int × Int) : Option X := f48b_T1 R_f43 k K   rec1 v
set_option maxRecDepth 100000 in
theorem f48b_L1_ev {X : Type} (R_f43 : f43_R) (hR_f43 : AnsOk Try.prog 43 (f43_cOf R_f43)) (k : Nat) (K : Out → Option X)  (r1 : St → Option X) (v : (List CV) × (List CV) × Int × Int) : loopB (f48b_cx R_f43 hR_f43) k [.r, .l, .r, .b] (Try.f48.body.getD .skip) (retK (f48b_cx R_f43 hR_f43) [] Try.f48.results.toList K) [] r1 (f48b_S1 v) = f48b_T1 R_f43 k (fun u => K (f48b_out u))   (fun v => r1 (f48b_S1 v)) v := by kernel_rfl
theorem f48b_L1_it {X : Type} (R_f43 : f43_R) (hR_f43 : AnsOk Try.prog 43 (f43_cOf R_f43)) (k : Nat) (K : Out → Option X)  : (fun v => iter (loopB (f48b_cx R_f43 hR_f43) k [.r, .l, .r, .b] (Try.f48.body.getD .skip) (retK (f48b_cx R_f43 hR_f43) [] Try.f48.results.toList K) []) k (f48b_S1 v)) = iterV (f48b_L1 R_f43 k (fun u => K (f48b_out u)) ) k :=
  iter_map (fun r1 v => (f48b_L1_ev R_f43 hR_f43 k K  r1 v).trans rfl) k
def f48b_T {X : Type} (R_f43 : f43_R) (k : Nat) (K : Int → Option X) (loop1 : (List CV) × (List CV) × Int × Int → Option X) (x0 : List CV) (x1 : List CV) : Option X :=
loop1 (x0, x1, (Nat.cast ((List.length x0)) : Int), 0)
/-- "slices.IndexFunc[[]outpost/watch.Watch,outpost/watch.Watch]" -/
def f48b_A (R_f43 : f43_R) (k : Nat) : f48b_R := fun X K x0 x1 => f48b_T R_f43 k K (iterV (f48b_L1 R_f43 k K) k) x0 x1
set_option maxRecDepth 100000 in
theorem f48b_ev' {X : Type} (R_f43 : f43_R) (hR_f43 : AnsOk Try.prog 43 (f43_cOf R_f43)) (k : Nat) (K : Out → Option X) (x0 : List CV) (x1 : List CV) : evFn (f48b_cx R_f43 hR_f43) [] k Try.f48.ntmps Try.f48.results.toList (Try.f48.body.getD .skip) [(.sl false (some 21) x0), (.fn 43 [(.bptr none (CV.slc none x1) 0)])] [] K = f48b_T R_f43 k (fun u => K (f48b_out u)) (fun v => iter (loopB (f48b_cx R_f43 hR_f43) k [.r, .l, .r, .b] (Try.f48.body.getD .skip) (retK (f48b_cx R_f43 hR_f43) [] Try.f48.results.toList K) []) k (f48b_S1 v)) x0 x1 := by kernel_rfl
theorem f48b_ev {X : Type} (R_f43 : f43_R) (hR_f43 : AnsOk Try.prog 43 (f43_cOf R_f43)) (k : Nat) (K : Out → Option X) (x0 : List CV) (x1 : List CV) : evFn (f48b_cx R_f43 hR_f43) [] k Try.f48.ntmps Try.f48.results.toList (Try.f48.body.getD .skip) [(.sl false (some 21) x0), (.fn 43 [(.bptr none (CV.slc none x1) 0)])] [] K = f48b_A R_f43 k X (fun u => K (f48b_out u)) x0 x1 := (f48b_ev' R_f43 hR_f43 k K x0 x1).trans (by rw [f48b_L1_it R_f43 hR_f43 k K]; rfl)
theorem f48b_okA (R_f43 : f43_R) (hR_f43 : AnsOk Try.prog 43 (f43_cOf R_f43)) (k : Nat) : AnsOk Try.prog 48 (f48b_cOf (f48b_A R_f43 k)) := by
  intro X xs ns K x h
  unfold f48b_cOf at h ⊢
  split at h
  · exact ans_main S (f48b_Cok R_f43 hR_f43) Try.func48 (ent_of Try.func48 (by kernel_rfl) rfl) rfl (fun X K => f48b_ev R_f43 hR_f43 k K _ _) h
  · cases h
/-- "slices.IndexFunc[[]outpost/watch.Watch,outpost/watch.Watch]" -/
def f48b {X : Type} (k : Nat) (K : Int → Option X) (x0 : List CV) (x1 : List CV) : Option X := f48b_A (fun X => @f43 X k) k X K x0 x1
theorem f48b_ok (k : Nat) : AnsOk Try.prog 48 (f48b_cOf (fun X => @f48b X k)) := f48b_okA (fun X => @f43 X k) (f43_ok k) k
abbrev f51_R : Type 1 := (X : Type) → (Nat × (List CV) → Option X) → Nat → (List CV) → (List CV) → Option X
def f51_out (u : Nat × (List CV)) : Out := ⟨(.osl [2000] (some 21) 0 u.1), [([2000], (.row false (some 21) u.2))]⟩
def f51_cOf (R : f51_R) : FnC := fun X xs ns K => match xs, ns with
  | [(.osl [1000] (some 21) 0 x0), (.fn 43 [(.bptr none (CV.slc none x1) 0)])], [([1000], (.row false (some 21) x2))] => R X (fun u => K (f51_out u)) x0 x1 x2
  | _, _ => none
def f51_is (xs : List AVal) (ns : Nodes) : Bool := match xs, ns with
  | [(.osl [1000] (some 21) 0 x0), (.fn 43 [(.bptr none (CV.slc none x1) 0)])], [([1000], (.row false (some 21) x2))] => true
  | _, _ => false
def f51_plan : Nat → Option (List Nat × List Wk)
  | 0 => some ([0, 1], [])
  | 1 => some ([0, 1], [])
  | 2 => some ([0, 1, 5], [])
  | 3 => some ([0], [])
  | 4 => some ([0, 1, 5], [])
  | 5 => some ([0, 1, 5, 6], [])
  | 6 => some ([0, 1, 5, 6], [])
  | 7 => some ([0, 1, 5, 6], [])
  | 8 => some ([0, 1, 5, 6, 7], [])
  | 9 => some ([0, 1, 5, 6, 7], [])
  | 10 => some ([0, 1, 5, 6], [])
  | 11 => some ([0, 5], [])
  | 12 => some ([0, 5], [])
  | _ => none
def f51_C (R_f48b : f48b_R) (R_f43 : f43_R) : Fns := (orC 43 (f43_cOf R_f43) (orC 48 (f48b_cOf R_f48b) noC))
theorem f51_Cok (R_f48b : f48b_R) (R_f43 : f43_R) (hR_f48b : AnsOk Try.prog 48 (f48b_cOf R_f48b)) (hR_f43 : AnsOk Try.prog 43 (f43_cOf R_f43)) : CsOk Try.prog (f51_C R_f48b R_f43) := (orC_ok hR_f43 (orC_ok hR_f48b noC_ok))
def f51_cx (R_f48b : f48b_R) (R_f43 : f43_R) (hR_f48b : AnsOk Try.prog 48 (f48b_cOf R_f48b)) (hR_f43 : AnsOk Try.prog 43 (f43_cOf R_f43)) : Cx := mkCx (tabOf rows) (f51_C R_f48b R_f43) md (cmpIn cmps) f51_plan (f51_Cok R_f48b R_f43 hR_f48b hR_f43)
def f51_S1 (v : Nat × (List CV) × Int × Int × (List CV)) : St := ⟨[(.osl [1000] (some 21) 0 v.1), (.fn 43 [(.bptr none (CV.slc none v.2.1) 0)]), .undef, .undef, .undef, (.v (CV.int .i64 v.2.2.1)), (.v (CV.int .i64 v.2.2.2.1)), .undef, .undef, .undef, .undef, .undef, .undef, .undef, .undef, .undef, .undef, .undef, .undef, .undef, .undef, .undef, .undef, .undef, .undef, .undef, .undef, .undef, .undef, .undef, .undef, .undef, .undef, .undef, .undef, .undef, .undef, .undef, .undef, .undef, .undef, .undef], [([1000], (.row false (some 21) v.2.2.2.2))]⟩
def f51_J1 {X : Type} (R_f48b : f48b_R) (R_f43 : f43_R) (k : Nat) (K : Nat × (List CV) → Option X) (rec1 : Nat × (List CV) × Int × Int × (List CV) → Option X) (v6_1 : Nat × (List CV) × Int × Int × (List CV)) (v9 : Int × (List CV)) : Option X :=
rec1 (v6_1.1, v6_1.2.1, v9.1, (IntKind.wrap .i64 (v6_1.2.2.2.1 + 1)), v9.2)
def f51_T1 {X : Type} (R_f48b : f48b_R) (R_f43 : f43_R) (k : Nat) (K : Nat × (List CV) → Option X)   (rec1 : Nat × (List CV) × Int × Int × (List CV) → Option X) (v6_1 : Nat × (List CV) × Int × Int × (List CV)) : Option X :=
(bif (decide (v6_1.2.2.2.1 < (Nat.cast (v6_1.1) : Int))) then
grd (decide (0 ≤ v6_1.2.2.2.1)) <|
grd (decide (v6_1.2.2.2.1 < (Nat.cast (v6_1.1) : Int))) <|
Option.bind (v6_1.2.2.2.2)[(0 + (Int.toNat v6_1.2.2.2.1))]? fun e10 =>
grd (CV.isA 21 e10) <|
grd (CV.isI .i64 (CV.cellD 0 e10)) <|
grd (CV.isL none (CV.cellD 1 e10)) <|
grd (CV.isL none (CV.cellD 2 e10)) <|
grd (CV.isI .i64 (CV.cellD 3 e10)) <|
grd (CV.isI .i64 (CV.cellD 4 e10)) <|
grd (CV.isB (CV.cellD 5 e10)) <|
grd (CV.isB (CV.cellD 6 e10)) <|
grd (CV.isI .i64 (CV.cellD 7 e10)) <|
grd (CV.isI .i64 (CV.cellD 8 e10)) <|
grd (CV.isI .i64 (CV.cellD 9 e10)) <|
grd (CV.isB (CV.cellD 10 e10)) <|
grd (CV.isB (CV.cellD 11 e10)) <|
grd (CV.isB (CV.cellD 12 e10)) <|
grd (CV.isI .i64 (CV.cellD 13 e10)) <|
grd (CV.isI .i64 (CV.cellD 14 e10)) <|
grd (CV.isS (CV.cellD 15 e10)) <|
grd (CV.isL none (CV.cellD 16 e10)) <|
grd (CV.isI .i64 (CV.cellD 17 e10)) <|
grd (CV.isI .i64 (CV.cellD 18 e10)) <|
grd (CV.isI .i64 (CV.cellD 19 e10)) <|
grd (CV.isI .i64 (CV.cellD 20 e10)) <|
R_f43 _ (fun u11 =>
(bif (!u11) then
grd (decide (0 ≤ v6_1.2.2.1)) <|
grd (decide (v6_1.2.2.1 < (Nat.cast (v6_1.1) : Int))) <|
grd (decide ((0 + (Int.toNat v6_1.2.2.1)) < (List.length v6_1.2.2.2.2))) <|
f51_J1 R_f48b R_f43 k K rec1 v6_1 ((IntKind.wrap .i64 (v6_1.2.2.1 + 1)), (List.set v6_1.2.2.2.2 (0 + (Int.toNat v6_1.2.2.1)) (CV.agg [(CV.int .i64 (CV.toI (CV.cellD 0 e10))), (CV.slc none (CV.toL (CV.cellD 1 e10))), (CV.slc none (CV.toL (CV.cellD 2 e10))), (CV.int .i64 (CV.toI (CV.cellD 3 e10))), (CV.int .i64 (CV.toI (CV.cellD 4 e10))), (CV.bool (CV.toB (CV.cellD 5 e10))), (CV.bool (CV.toB (CV.cellD 6 e10))), (CV.int .i64 (CV.toI (CV.cellD 7 e10))), (CV.int .i64 (CV.toI (CV.cellD 8 e10))), (CV.int .i64 (CV.toI (CV.cellD 9 e10))), (CV.bool (CV.toB (CV.cellD 10 e10))), (CV.bool (CV.toB (CV.cellD 11 e10))), (CV.bool (CV.toB (CV.cellD 12 e10))), (CV.int .i64 (CV.toI (CV.cellD 13 e10))), (CV.int .i64 (CV.toI (CV.cellD 14 e10))), (CV.str (CV.toS (CV.cellD 15 e10))), (CV.slc none (CV.toL (CV.cellD 16 e10))), (CV.int .i64 (CV.toI (CV.cellD 17 e10))), (CV.int .i64 (CV.toI (CV.cellD 18 e10))), (CV.int .i64 (CV.toI (CV.cellD 19 e10))), (CV.int .i64 (CV.toI (CV.cellD 20 e10)))])))
else
f51_J1 R_f48b R_f43 k K rec1 v6_1 (v6_1.2.2.1, v6_1.2.2.2.2))) ((CV.agg [(CV.int .i64 (CV.toI (CV.cellD 0 e10))), (CV.slc none (CV.toL (CV.cellD 1 e10))), (CV.slc none (CV.toL (CV.cellD 2 e10))), (CV.int .i64 (CV.toI (CV.cellD 3 e10))), (CV.int .i64 (CV.toI (CV.cellD 4 e10))), (CV.bool (CV.toB (CV.cellD 5 e10))), (CV.bool (CV.toB (CV.cellD 6 e10))), (CV.int .i64 (CV.toI (CV.cellD 7 e10))), (CV.int .i64 (CV.toI (CV.cellD 8 e10))), (CV.int .i64 (CV.toI (CV.cellD 9 e10))), (CV.bool (CV.toB (CV.cellD 10 e10))), (CV.bool (CV.toB (CV.cellD 11 e10))), (CV.bool (CV.toB (CV.cellD 12 e10))), (CV.int .i64 (CV.toI (CV.cellD 13 e10))), (CV.int .i64 (CV.toI (CV.cellD 14 e10))), (CV.str (CV.toS (CV.cellD 15 e10))), (CV.slc none (CV.toL (CV.cellD 16 e10))), (CV.int .i64 (CV.toI (CV.cellD 17 e10))), (CV.int .i64 (CV.toI (CV.cellD 18 e10))), (CV.int .i64 (CV.toI (CV.cellD 19 e10))), (CV.int .i64 (CV.toI (CV.cellD 20 e10)))])) (v6_1.2.1)
else
grd (decide (0 ≤ v6_1.2.2.1)) <|
grd (decide (v6_1.2.2.1 ≤ (Nat.cast (v6_1.1) : Int))) <|
grd (decide ((Nat.cast (v6_1.1) : Int) ≤ (Nat.cast (v6_1.1) : Int))) <|
grd (decide (((0 + (Int.toNat v6_1.2.2.1)) + (v6_1.1 - (Int.toNat v6_1.2.2.1))) ≤ (List.length v6_1.2.2.2.2))) <|
grd (decide (0 ≤ v6_1.2.2.1)) <|
grd (decide (v6_1.2.2.1 ≤ ((Nat.cast ((List.length ((List.take (0 + (Int.toNat v6_1.2.2.1)) v6_1.2.2.2.2) ++ List.replicate (v6_1.1 - (Int.toNat v6_1.2.2.1)) (CV.agg [(CV.int .i64 0), (CV.slc none []), (CV.slc none []), (CV.int .i64 0), (CV.int .i64 0), (CV.bool false), (CV.bool false), (CV.int .i64 0), (CV.int .i64 0), (CV.int .i64 0), (CV.bool false), (CV.bool false), (CV.bool false), (CV.int .i64 0), (CV.int .i64 0), (CV.str ⟨#[]⟩), (CV.slc none []), (CV.int .i64 0), (CV.int .i64 0), (CV.int .i64 0), (CV.int .i64 0)]) ++ (List.drop ((0 + (Int.toNat v6_1.2.2.1)) + (v6_1.1 - (Int.toNat v6_1.2.2.1))) v6_1.2.2.2.2)))) : Int) - 0))) <|
K (((Int.toNat v6_1.2.2.1) - 0), (List.take (0 + ((Int.toNat v6_1.2.2.1) - 0)) ((List.take (0 + (Int.toNat v6_1.2.2.1)) v6_1.2.2.2.2) ++ List.replicate (v6_1.1 - (Int.toNat v6_1.2.2.1)) (CV.agg [(CV.int .i64 0), (CV.slc none []), (CV.slc none []), (CV.int .i64 0), (CV.int .i64 0), (CV.bool false), (CV.bool false), (CV.int .i64 0), (CV.int .i64 0), (CV.int .i64 0), (CV.bool false), (CV.bool false), (CV.bool false), (CV.int .i64 0), (CV.int .i64 0), (CV.str ⟨#[]⟩), (CV.slc none []), (CV.int .i64 0), (CV.int .i64 0), (CV.int .i64 0), (CV.int .i64 0)]) ++ (List.drop ((0 + (Int.toNat v6_1.2.2.1)) + (v6_1.1 - (Int.toNat v6_1.2.2.1))) v6_1.2.2.2.2)))))
def f51_L1 {X : Type} (R_f48b : f48b_R) (R_f43 : f43_R) (k : Nat) (K : Nat × (List CV) → Option X)  (rec1 : Nat × (List CV) × Int × Int × (List CV) → Option X) (v : Nat × (List CV) × Int × Int × (List CV)) : Option X := f51_T1 R_f48b R_f43 k K   rec1 v
set_option maxRecDepth 100000 in
theorem f51_L1_ev {X : Type} (R_f48b : f48b_R) (R_f43 : f43_R) (hR_f48b : AnsOk Try.prog 48 (f48b_cOf R_f48b)) (hR_f43 : AnsOk Try.prog 43 (f43_cOf R_f43)) (k : Nat) (K : Out → Option X)  (r1 : St → Option X) (v : Nat × (List CV) × Int × Int × (List CV)) : loopB (f51_cx R_f48b R_f43 hR_f48b hR_f43) k [.r, .r, .r, .l, .r, .b] (Try.f51.body.getD .skip) (retK (f51_cx R_f48b R_f43 hR_f48b hR_f43) [] Try.f51.results.toList K) [] r1 (f51_S1 v) = f51_T1 R_f48b R_f43 k (fun u => K (f51_out u))   (fun v => r1 (f51_S1 v)) v := by kernel_rfl
theorem f51_L1_it {X : Type} (R_f48b : f48b_R) (R_f43 : f43_R) (hR_f48b : AnsOk Try.prog 48 (f48b_cOf R_f48b)) (hR_f43 : AnsOk Try.prog 43 (f43_cOf R_f43)) (k : Nat) (K : Out → Option X)  : (fun v => iter (loopB (f51_cx R_f48b R_f43 hR_f48b hR_f43) k [.r, .r, .r, .l, .r, .b] (Try.f51.body.getD .skip) (retK (f51_cx R_f48b R_f43 hR_f48b hR_f43) [] Try.f51.results.toList K) []) k (f51_S1 v)) = iterV (f51_L1 R_f48b R_f43 k (fun u => K (f51_out u)) ) k :=
  iter_map (fun r1 v => (f51_L1_ev R_f48b R_f43 hR_f48b hR_f43 k K  r1 v).trans rfl) k
def f51_T {X : Type} (R_f48b : f48b_R) (R_f43 : f43_R) (k : Nat) (K : Nat × (List CV) → Option X) (loop1 : Nat × (List CV) × Int × Int × (List CV) → Option X) (x0 : Nat) (x1 : List CV) (x2 : List CV) : Option X :=
R_f48b _ (fun u1 =>
(bif (u1 == (-1)) then
K (x0, (List.take (0 + x0) x2))
else
loop1 (x0, x1, u1, (IntKind.wrap .i64 (u1 + 1)), x2))) ((List.take x0 (List.drop 0 x2))) (x1)
/-- "slices.DeleteFunc[[]outpost/watch.Watch,outpost/watch.Watch]" -/
def f51_A (R_f48b : f48b_R) (R_f43 : f43_R) (k : Nat) : f51_R := fun X K x0 x1 x2 => f51_T R_f48b R_f43 k K (iterV (f51_L1 R_f48b R_f43 k K) k) x0 x1 x2
set_option maxRecDepth 100000 in
theorem f51_ev' {X : Type} (R_f48b : f48b_R) (R_f43 : f43_R) (hR_f48b : AnsOk Try.prog 48 (f48b_cOf R_f48b)) (hR_f43 : AnsOk Try.prog 43 (f43_cOf R_f43)) (k : Nat) (K : Out → Option X) (x0 : Nat) (x1 : List CV) (x2 : List CV) : evFn (f51_cx R_f48b R_f43 hR_f48b hR_f43) [] k Try.f51.ntmps Try.f51.results.toList (Try.f51.body.getD .skip) [(.osl [1000] (some 21) 0 x0), (.fn 43 [(.bptr none (CV.slc none x1) 0)])] [([1000], (.row false (some 21) x2))] K = f51_T R_f48b R_f43 k (fun u => K (f51_out u)) (fun v => iter (loopB (f51_cx R_f48b R_f43 hR_f48b hR_f43) k [.r, .r, .r, .l, .r, .b] (Try.f51.body.getD .skip) (retK (f51_cx R_f48b R_f43 hR_f48b hR_f43) [] Try.f51.results.toList K) []) k (f51_S1 v)) x0 x1 x2 := by kernel_rfl
theorem f51_ev {X : Type} (R_f48b : f48b_R) (R_f43 : f43_R) (hR_f48b : AnsOk Try.prog 48 (f48b_cOf R_f48b)) (hR_f43 : AnsOk Try.prog 43 (f43_cOf R_f43)) (k : Nat) (K : Out → Option X) (x0 : Nat) (x1 : List CV) (x2 : List CV) : evFn (f51_cx R_f48b R_f43 hR_f48b hR_f43) [] k Try.f51.ntmps Try.f51.results.toList (Try.f51.body.getD .skip) [(.osl [1000] (some 21) 0 x0), (.fn 43 [(.bptr none (CV.slc none x1) 0)])] [([1000], (.row false (some 21) x2))] K = f51_A R_f48b R_f43 k X (fun u => K (f51_out u)) x0 x1 x2 := (f51_ev' R_f48b R_f43 hR_f48b hR_f43 k K x0 x1 x2).trans (by rw [f51_L1_it R_f48b R_f43 hR_f48b hR_f43 k K]; rfl)
theorem f51_okA (R_f48b : f48b_R) (R_f43 : f43_R) (hR_f48b : AnsOk Try.prog 48 (f48b_cOf R_f48b)) (hR_f43 : AnsOk Try.prog 43 (f43_cOf R_f43)) (k : Nat) : AnsOk Try.prog 51 (f51_cOf (f51_A R_f48b R_f43 k)) := by
  intro X xs ns K x h
  unfold f51_cOf at h ⊢
  split at h
  · exact ans_main S (f51_Cok R_f48b R_f43 hR_f48b hR_f43) Try.func51 (ent_of Try.func51 (by kernel_rfl) rfl) rfl (fun X K => f51_ev R_f48b R_f43 hR_f48b hR_f43 k K _ _ _) h
  · cases h
/-- "slices.DeleteFunc[[]outpost/watch.Watch,outpost/watch.Watch]" -/
def f51 {X : Type} (k : Nat) (K : Nat × (List CV) → Option X) (x0 : Nat) (x1 : List CV) (x2 : List CV) : Option X := f51_A (fun X => @f48b X k) (fun X => @f43 X k) k X K x0 x1 x2
theorem f51_ok (k : Nat) : AnsOk Try.prog 51 (f51_cOf (fun X => @f51 X k)) := f51_okA (fun X => @f48b X k) (fun X => @f43 X k) (f48b_ok k) (f43_ok k) k
abbrev f40_R : Type 1 := (X : Type) → (Int × Nat × (List CV) → Option X) → (List CV) → Nat → (List CV) → Option X
def f40_out (u : Int × Nat × (List CV)) : Out := ⟨(.v (CV.int .i64 u.1)), [([1000], (.obj [(.osl [0, 1000] (some 21) 0 u.2.1)])), ([0, 1000], (.row false (some 21) u.2.2))]⟩
def f40_cOf (R : f40_R) : FnC := fun X xs ns K => match xs, ns with
  | [(.ptr [1000] 0 0 0), (.fn 43 [(.bptr none (CV.slc none x0) 0)])], [([1000], (.obj [(.osl [0, 1000] (some 21) 0 x1)])), ([0, 1000], (.row false (some 21) x2))] => R X (fun u => K (f40_out u)) x0 x1 x2
  | _, _ => none
def f40_is (xs : List AVal) (ns : Nodes) : Bool := match xs, ns with
  | [(.ptr [1000] 0 0 0), (.fn 43 [(.bptr none (CV.slc none x0) 0)])], [([1000], (.obj [(.osl [0, 1000] (some 21) 0 x1)])), ([0, 1000], (.row false (some 21) x2))] => true
  | _, _ => false
def f40_plan : Nat → Option (List Nat × List Wk)
  | 0 => some ([0, 1], [])
  | 1 => some ([0, 1], [])
  | 2 => some ([0, 1, 5], [])
  | 3 => some ([0, 5], [])
  | _ => none
def f40_C (R_f51 : f51_R) : Fns := (orC 51 (f51_cOf R_f51) noC)
theorem f40_Cok (R_f51 : f51_R) (hR_f51 : AnsOk Try.prog 51 (f51_cOf R_f51)) : CsOk Try.prog (f40_C R_f51) := (orC_ok hR_f51 noC_ok)
def f40_cx (R_f51 : f51_R) (hR_f51 : AnsOk Try.prog 51 (f51_cOf R_f51)) : Cx := mkCx (tabOf rows) (f40_C R_f51) md (cmpIn cmps) f40_plan (f40_Cok R_f51 hR_f51)
def f40_T {X : Type} (R_f51 : f51_R) (k : Nat) (K : Int × Nat × (List CV) → Option X)  (x0 : List CV) (x1 : Nat) (x2 : List CV) : Option X :=
R_f51 _ (fun u1 =>
K ((IntKind.wrap .i64 ((Nat.cast (x1) : Int) - (Nat.cast (u1.1) : Int))), u1.1, (List.take (0 + u1.1) u1.2))) (x1) (x0) (x2)
/-- "(*outpost/watch.Table).drop" -/
def f40_A (R_f51 : f51_R) (k : Nat) : f40_R := fun X K x0 x1 x2 => f40_T R_f51 k K  x0 x1 x2
set_option maxRecDepth 100000 in
theorem f40_ev' {X : Type} (R_f51 : f51_R) (hR_f51 : AnsOk Try.prog 51 (f51_cOf R_f51)) (k : Nat) (K : Out → Option X) (x0 : List CV) (x1 : Nat) (x2 : List CV) : evFn (f40_cx R_f51 hR_f51) [] k Try.f40.ntmps Try.f40.results.toList (Try.f40.body.getD .skip) [(.ptr [1000] 0 0 0), (.fn 43 [(.bptr none (CV.slc none x0) 0)])] [([1000], (.obj [(.osl [0, 1000] (some 21) 0 x1)])), ([0, 1000], (.row false (some 21) x2))] K = f40_T R_f51 k (fun u => K (f40_out u)) x0 x1 x2 := by kernel_rfl
theorem f40_ev {X : Type} (R_f51 : f51_R) (hR_f51 : AnsOk Try.prog 51 (f51_cOf R_f51)) (k : Nat) (K : Out → Option X) (x0 : List CV) (x1 : Nat) (x2 : List CV) : evFn (f40_cx R_f51 hR_f51) [] k Try.f40.ntmps Try.f40.results.toList (Try.f40.body.getD .skip) [(.ptr [1000] 0 0 0), (.fn 43 [(.bptr none (CV.slc none x0) 0)])] [([1000], (.obj [(.osl [0, 1000] (some 21) 0 x1)])), ([0, 1000], (.row false (some 21) x2))] K = f40_A R_f51 k X (fun u => K (f40_out u)) x0 x1 x2 := (f40_ev' R_f51 hR_f51 k K x0 x1 x2).trans rfl
theorem f40_okA (R_f51 : f51_R) (hR_f51 : AnsOk Try.prog 51 (f51_cOf R_f51)) (k : Nat) : AnsOk Try.prog 40 (f40_cOf (f40_A R_f51 k)) := by
  intro X xs ns K x h
  unfold f40_cOf at h ⊢
  split at h
  · exact ans_main S (f40_Cok R_f51 hR_f51) Try.func40 (ent_of Try.func40 (by kernel_rfl) rfl) rfl (fun X K => f40_ev R_f51 hR_f51 k K _ _ _) h
  · cases h
/-- "(*outpost/watch.Table).drop" -/
def f40 {X : Type} (k : Nat) (K : Int × Nat × (List CV) → Option X) (x0 : List CV) (x1 : Nat) (x2 : List CV) : Option X := f40_A (fun X => @f51 X k) k X K x0 x1 x2
theorem f40_ok (k : Nat) : AnsOk Try.prog 40 (f40_cOf (fun X => @f40 X k)) := f40_okA (fun X => @f51 X k) (f51_ok k) k
abbrev f22_R : Type 1 := (X : Type) → (Int × Nat × (List CV) → Option X) → (List CV) → Nat → (List CV) → Option X
def f22_out (u : Int × Nat × (List CV)) : Out := ⟨(.v (CV.int .i64 u.1)), [([1000], (.obj [(.osl [0, 1000] (some 21) 0 u.2.1)])), ([0, 1000], (.row false (some 21) u.2.2))]⟩
def f22_cOf (R : f22_R) : FnC := fun X xs ns K => match xs, ns with
  | [(.ptr [1000] 0 0 0), (.sl true none x0)], [([1000], (.obj [(.osl [0, 1000] (some 21) 0 x1)])), ([0, 1000], (.row false (some 21) x2))] => R X (fun u => K (f22_out u)) x0 x1 x2
  | _, _ => none
def f22_plan : Nat → Option (List Nat × List Wk)
  | 0 => some ([0, 1], [])
  | 1 => some ([0, 3], [])
  | _ => none
def f22_C (R_f40 : f40_R) : Fns := (orC 40 (f40_cOf R_f40) noC)
theorem f22_Cok (R_f40 : f40_R) (hR_f40 : AnsOk Try.prog 40 (f40_cOf R_f40)) : CsOk Try.prog (f22_C R_f40) := (orC_ok hR_f40 noC_ok)
def f22_cx (R_f40 : f40_R) (hR_f40 : AnsOk Try.prog 40 (f40_cOf R_f40)) : Cx := mkCx (tabOf rows) (f22_C R_f40) md (cmpIn cmps) f22_plan (f22_Cok R_f40 hR_f40)
def f22_T {X : Type} (R_f40 : f40_R) (k : Nat) (K : Int × Nat × (List CV) → Option X)  (x0 : List CV) (x1 : Nat) (x2 : List CV) : Option X :=
R_f40 _ (fun u1 =>
K (u1.1, u1.2.1, (List.take (0 + u1.2.1) u1.2.2))) (x0) (x1) (x2)
/-- "(*outpost/watch.Table).DropPath" -/
def f22_A (R_f40 : f40_R) (k : Nat) : f22_R := fun X K x0 x1 x2 => f22_T R_f40 k K  x0 x1 x2
set_option maxRecDepth 100000 in
theorem f22_ev' {X : Type} (R_f40 : f40_R) (hR_f40 : AnsOk Try.prog 40 (f40_cOf R_f40)) (k : Nat) (K : Out → Option X) (x0 : List CV) (x1 : Nat) (x2 : List CV) : evFn (f22_cx R_f40 hR_f40) [] k Try.f22.ntmps Try.f22.results.toList (Try.f22.body.getD .skip) [(.ptr [1000] 0 0 0), (.sl true none x0)] [([1000], (.obj [(.osl [0, 1000] (some 21) 0 x1)])), ([0, 1000], (.row false (some 21) x2))] K = f22_T R_f40 k (fun u => K (f22_out u)) x0 x1 x2 := by kernel_rfl
theorem f22_ev {X : Type} (R_f40 : f40_R) (hR_f40 : AnsOk Try.prog 40 (f40_cOf R_f40)) (k : Nat) (K : Out → Option X) (x0 : List CV) (x1 : Nat) (x2 : List CV) : evFn (f22_cx R_f40 hR_f40) [] k Try.f22.ntmps Try.f22.results.toList (Try.f22.body.getD .skip) [(.ptr [1000] 0 0 0), (.sl true none x0)] [([1000], (.obj [(.osl [0, 1000] (some 21) 0 x1)])), ([0, 1000], (.row false (some 21) x2))] K = f22_A R_f40 k X (fun u => K (f22_out u)) x0 x1 x2 := (f22_ev' R_f40 hR_f40 k K x0 x1 x2).trans rfl
theorem f22_okA (R_f40 : f40_R) (hR_f40 : AnsOk Try.prog 40 (f40_cOf R_f40)) (k : Nat) : AnsOk Try.prog 22 (f22_cOf (f22_A R_f40 k)) := by
  intro X xs ns K x h
  unfold f22_cOf at h ⊢
  split at h
  · exact ans_main S (f22_Cok R_f40 hR_f40) Try.func22 (ent_of Try.func22 (by kernel_rfl) rfl) rfl (fun X K => f22_ev R_f40 hR_f40 k K _ _ _) h
  · cases h
/-- "(*outpost/watch.Table).DropPath" -/
def f22 {X : Type} (k : Nat) (K : Int × Nat × (List CV) → Option X) (x0 : List CV) (x1 : Nat) (x2 : List CV) : Option X := f22_A (fun X => @f40 X k) k X K x0 x1 x2
theorem f22_ok (k : Nat) : AnsOk Try.prog 22 (f22_cOf (fun X => @f22 X k)) := f22_okA (fun X => @f40 X k) (f40_ok k) k
abbrev f41_R : Type 1 := (X : Type) → (Bool → Option X) → CV → Int → (List CV) → Option X
def f41_out (u : Bool) : Out := ⟨(.v (CV.bool u)), []⟩
def f41_cOf (R : f41_R) : FnC := fun X xs ns K => match xs, ns with
  | [(.v x0), (.bptr none (CV.int .i64 x1) 0), (.bptr none (CV.slc none x2) 0)], [] => R X (fun u => K (f41_out u)) x0 x1 x2
  | _, _ => none
def f41_plan : Nat → Option (List Nat × List Wk)
  | 0 => some ([0, 1, 2], [])
  | 1 => some ([1, 2, 3], [])
  | _ => none
def f41_C (R_f42 : f42_R) : Fns := (orC 42 (f42_cOf R_f42) noC)
theorem f41_Cok (R_f42 : f42_R) (hR_f42 : AnsOk Try.prog 42 (f42_cOf R_f42)) : CsOk Try.prog (f41_C R_f42) := (orC_ok hR_f42 noC_ok)
def f41_cx (R_f42 : f42_R) (hR_f42 : AnsOk Try.prog 42 (f42_cOf R_f42)) : Cx := mkCx (tabOf rows) (f41_C R_f42) md (cmpIn cmps) f41_plan (f41_Cok R_f42 hR_f42)
def f41_T {X : Type} (R_f42 : f42_R) (k : Nat) (K : Bool → Option X)  (x0 : CV) (x1 : Int) (x2 : List CV) : Option X :=
grd (CV.isA 21 x0) <|
grd (CV.isI .i64 (CV.cellD 0 x0)) <|
grd (CV.isL none (CV.cellD 1 x0)) <|
grd (CV.isL none (CV.cellD 2 x0)) <|
grd (CV.isI .i64 (CV.cellD 3 x0)) <|
grd (CV.isI .i64 (CV.cellD 4 x0)) <|
grd (CV.isB (CV.cellD 5 x0)) <|
grd (CV.isB (CV.cellD 6 x0)) <|
grd (CV.isI .i64 (CV.cellD 7 x0)) <|
grd (CV.isI .i64 (CV.cellD 8 x0)) <|
grd (CV.isI .i64 (CV.cellD 9 x0)) <|
grd (CV.isB (CV.cellD 10 x0)) <|
grd (CV.isB (CV.cellD 11 x0)) <|
grd (CV.isB (CV.cellD 12 x0)) <|
grd (CV.isI .i64 (CV.cellD 13 x0)) <|
grd (CV.isI .i64 (CV.cellD 14 x0)) <|
grd (CV.isS (CV.cellD 15 x0)) <|
grd (CV.isL none (CV.cellD 16 x0)) <|
grd (CV.isI .i64 (CV.cellD 17 x0)) <|
grd (CV.isI .i64 (CV.cellD 18 x0)) <|
grd (CV.isI .i64 (CV.cellD 19 x0)) <|
grd (CV.isI .i64 (CV.cellD 20 x0)) <|
(bif ((CV.toI (CV.cellD 0 x0)) == x1) then
R_f42 _ (fun u1 =>
K (u1)) ((CV.toL (CV.cellD 1 x0))) (x2)
else
K (false))
/-- "(*outpost/watch.Table).Drop$1" -/
def f41_A (R_f42 : f42_R) (k : Nat) : f41_R := fun X K x0 x1 x2 => f41_T R_f42 k K  x0 x1 x2
set_option maxRecDepth 100000 in
theorem f41_ev' {X : Type} (R_f42 : f42_R) (hR_f42 : AnsOk Try.prog 42 (f42_cOf R_f42)) (k : Nat) (K : Out → Option X) (x0 : CV) (x1 : Int) (x2 : List CV) : evFn (f41_cx R_f42 hR_f42) [] k Try.f41.ntmps Try.f41.results.toList (Try.f41.body.getD .skip) [(.v x0), (.bptr none (CV.int .i64 x1) 0), (.bptr none (CV.slc none x2) 0)] [] K = f41_T R_f42 k (fun u => K (f41_out u)) x0 x1 x2 := by kernel_rfl
theorem f41_ev {X : Type} (R_f42 : f42_R) (hR_f42 : AnsOk Try.prog 42 (f42_cOf R_f42)) (k : Nat) (K : Out → Option X) (x0 : CV) (x1 : Int) (x2 : List CV) : evFn (f41_cx R_f42 hR_f42) [] k Try.f41.ntmps Try.f41.results.toList (Try.f41.body.getD .skip) [(.v x0), (.bptr none (CV.int .i64 x1) 0), (.bptr none (CV.slc none x2) 0)] [] K = f41_A R_f42 k X (fun u => K (f41_out u)) x0 x1 x2 := (f41_ev' R_f42 hR_f42 k K x0 x1 x2).trans rfl
theorem f41_okA (R_f42 : f42_R) (hR_f42 : AnsOk Try.prog 42 (f42_cOf R_f42)) (k : Nat) : AnsOk Try.prog 41 (f41_cOf (f41_A R_f42 k)) := by
  intro X xs ns K x h
  unfold f41_cOf at h ⊢
  split at h
  · exact ans_main S (f41_Cok R_f42 hR_f42) Try.func41 (ent_of Try.func41 (by kernel_rfl) rfl) rfl (fun X K => f41_ev R_f42 hR_f42 k K _ _ _) h
  · cases h
/-- "(*outpost/watch.Table).Drop$1" -/
def f41 {X : Type} (k : Nat) (K : Bool → Option X) (x0 : CV) (x1 : Int) (x2 : List CV) : Option X := f41_A (fun X => @f42 X k) k X K x0 x1 x2
theorem f41_ok (k : Nat) : AnsOk Try.prog 41 (f41_cOf (fun X => @f41 X k)) := f41_okA (fun X => @f42 X k) (f42_ok k) k
abbrev f48c_R : Type 1 := (X : Type) → (Int → Option X) → (List CV) → Int → (List CV) → Option X
def f48c_out (u : Int) : Out := ⟨(.v (CV.int .i64 u)), []⟩
def f48c_cOf (R : f48c_R) : FnC := fun X xs ns K => match xs, ns with
  | [(.sl false (some 21) x0), (.fn 41 [(.bptr none (CV.int .i64 x1) 0), (.bptr none (CV.slc none x2) 0)])], [] => R X (fun u => K (f48c_out u)) x0 x1 x2
  | _, _ => none
def f48c_is (xs : List AVal) (ns : Nodes) : Bool := match xs, ns with
  | [(.sl false (some 21) x0), (.fn 41 [(.bptr none (CV.int .i64 x1) 0), (.bptr none (CV.slc none x2) 0)])], [] => true
  | _, _ => false
def f48c_plan : Nat → Option (List Nat × List Wk)
  | 0 => some ([0, 1], [])
  | 1 => some ([0, 1], [])
  | 2 => some ([0, 1, 7, 8], [])
  | 3 => some ([0, 1, 7, 8], [])
  | 4 => some ([0, 1, 5, 7, 8], [])
  | 5 => some ([5], [])
  | 6 => some ([0, 1, 7, 8], [])
  | 7 => some ([], [])
  | _ => none
def f48c_C (R_f41 : f41_R) : Fns := (orC 41 (f41_cOf R_f41) noC)
theorem f48c_Cok (R_f41 : f41_R) (hR_f41 : AnsOk Try.prog 41 (f41_cOf R_f41)) : CsOk Try.prog (f48c_C R_f41) := (orC_ok hR_f41 noC_ok)
def f48c_cx (R_f41 : f41_R) (hR_f41 : AnsOk Try.prog 41 (f41_cOf R_f41)) : Cx := mkCx (tabOf rows) (f48c_C R_f41) md (cmpIn cmps) f48c_plan (f48c_Cok R_f41 hR_f41)
def f48c_S1 (v : (List CV) × Int × (List CV) × Int × Int) : St := ⟨[(.sl false (some 21) v.1), (.fn 41 [(.bptr none (CV.int .i64 v.2.1) 0), (.bptr none (CV.slc none v.2.2.1) 0)]), .undef, .undef, .undef, .undef, .undef, (.v (CV.int .i64 v.2.2.2.1)), (.v (CV.int .i64 v.2.2.2.2)), .undef, .undef, .undef, .undef, .undef, .undef, .undef, .undef, .undef, .undef], []⟩
def f48c_T1 {X : Type} (R_f41 : f41_R) (k : Nat) (K : Int → Option X)   (rec1 : (List CV) × Int × (List CV) × Int × Int → Option X) (v4_0 : (List CV) × Int × (List CV) × Int × Int) : Option X :=
(bif (decide (v4_0.2.2.2.2 < v4_0.2.2.2.1)) then
grd (decide (0 ≤ v4_0.2.2.2.2)) <|
Option.bind (v4_0.1)[(Int.toNat v4_0.2.2.2.2)]? fun e8 =>
R_f41 _ (fun u9 =>
(bif u9 then
K (v4_0.2.2.2.2)
else
rec1 (v4_0.1, v4_0.2.1, v4_0.2.2.1, v4_0.2.2.2.1, (IntKind.wrap .i64 (v4_0.2.2.2.2 + 1))))) (e8) (v4_0.2.1) (v4_0.2.2.1)
else
K ((-1)))
def f48c_L1 {X : Type} (R_f41 : f41_R) (k : Nat) (K : Int → Option X)  (rec1 : (List CV) × Int × (List CV) × Int × Int → Option X) (v : (List CV) × Int × (List CV) × Int × Int) : Option X := f48c_T1 R_f41 k K   rec1 v
set_option maxRecDepth 100000 in
theorem f48c_L1_ev {X : Type} (R_f41 : f41_R) (hR_f41 : AnsOk Try.prog 41 (f41_cOf R_f41)) (k : Nat) (K : Out → Option X)  (r1 : St → Option X) (v : (List CV) × Int × (List CV) × Int × Int) : loopB (f48c_cx R_f41 hR_f41) k [.r, .l, .r, .b] (Try.f48.body.getD .skip) (retK (f48c_cx R_f41 hR_f41) [] Try.f48.results.toList K) [] r1 (f48c_S1 v) = f48c_T1 R_f41 k (fun u => K (f48c_out u))   (fun v => r1 (f48c_S1 v)) v := by kernel_rfl
theorem f48c_L1_it {X : Type} (R_f41 : f41_R) (hR_f41 : AnsOk Try.prog 41 (f41_cOf R_f41)) (k : Nat) (K : Out → Option X)  : (fun v => iter (loopB (f48c_cx R_f41 hR_f41) k [.r, .l, .r, .b] (Try.f48.body.getD .skip) (retK (f48c_cx R_f41 hR_f41) [] Try.f48.results.toList K) []) k (f48c_S1 v)) = iterV (f48c_L1 R_f41 k (fun u => K (f48c_out u)) ) k :=
  iter_map (fun r1 v => (f48c_L1_ev R_f41 hR_f41 k K  r1 v).trans rfl) k
def f48c_T {X : Type} (R_f41 : f41_R) (k : Nat) (K : Int → Option X) (loop1 : (List CV) × Int × (List CV) × Int × Int → Option X) (x0 : List CV) (x1 : Int) (x2 : List CV) : Option X :=
loop1 (x0, x1, x2, (Nat.cast ((List.length x0)) : Int), 0)
/-- "slices.IndexFunc[[]outpost/watch.Watch,outpost/watch.Watch]" -/
def f48c_A (R_f41 : f41_R) (k : Nat) : f48c_R := fun X K x0 x1 x2 => f48c_T R_f41 k K (iterV (f48c_L1 R_f41 k K) k) x0 x1 x2
set_option maxRecDepth 100000 in
theorem f48c_ev' {X : Type} (R_f41 : f41_R) (hR_f41 : AnsOk Try.prog 41 (f41_cOf R_f41)) (k : Nat) (K : Out → Option X) (x0 : List CV) (x1 : Int) (x2 : List CV) : evFn (f48c_cx R_f41 hR_f41) [] k Try.f48.ntmps Try.f48.results.toList (Try.f48.body.getD .skip) [(.sl false (some 21) x0), (.fn 41 [(.bptr none (CV.int .i64 x1) 0), (.bptr none (CV.slc none x2) 0)])] [] K = f48c_T R_f41 k (fun u => K (f48c_out u)) (fun v => iter (loopB (f48c_cx R_f41 hR_f41) k [.r, .l, .r, .b] (Try.f48.body.getD .skip) (retK (f48c_cx R_f41 hR_f41) [] Try.f48.results.toList K) []) k (f48c_S1 v)) x0 x1 x2 := by kernel_rfl
theorem f48c_ev {X : Type} (R_f41 : f41_R) (hR_f41 : AnsOk Try.prog 41 (f41_cOf R_f41)) (k : Nat) (K : Out → Option X) (x0 : List CV) (x1 : Int) (x2 : List CV) : evFn (f48c_cx R_f41 hR_f41) [] k Try.f48.ntmps Try.f48.results.toList (Try.f48.body.getD .skip) [(.sl false (some 21) x0), (.fn 41 [(.bptr none (CV.int .i64 x1) 0), (.bptr none (CV.slc none x2) 0)])] [] K = f48c_A R_f41 k X (fun u => K (f48c_out u)) x0 x1 x2 := (f48c_ev' R_f41 hR_f41 k K x0 x1 x2).trans (by rw [f48c_L1_it R_f41 hR_f41 k K]; rfl)
theorem f48c_okA (R_f41 : f41_R) (hR_f41 : AnsOk Try.prog 41 (f41_cOf R_f41)) (k : Nat) : AnsOk Try.prog 48 (f48c_cOf (f48c_A R_f41 k)) := by
  intro X xs ns K x h
  unfold f48c_cOf at h ⊢
  split at h
  · exact ans_main S (f48c_Cok R_f41 hR_f41) Try.func48 (ent_of Try.func48 (by kernel_rfl) rfl) rfl (fun X K => f48c_ev R_f41 hR_f41 k K _ _ _) h
  · cases h
/-- "slices.IndexFunc[[]outpost/watch.Watch,outpost/watch.Watch]" -/
def f48c {X : Type} (k : Nat) (K : Int → Option X) (x0 : List CV) (x1 : Int) (x2 : List CV) : Option X := f48c_A (fun X => @f41 X k) k X K x0 x1 x2
theorem f48c_ok (k : Nat) : AnsOk Try.prog 48 (f48c_cOf (fun X => @f48c X k)) := f48c_okA (fun X => @f41 X k) (f41_ok k) k
abbrev f51b_R : Type 1 := (X : Type) → (Nat × (List CV) → Option X) → Nat → Int → (List CV) → (List CV) → Option X
def f51b_out (u : Nat × (List CV)) : Out := ⟨(.osl [2000] (some 21) 0 u.1), [([2000], (.row false (some 21) u.2))]⟩
def f51b_cOf (R : f51b_R) : FnC := fun X xs ns K => match xs, ns with
  | [(.osl [1000] (some 21) 0 x0), (.fn 41 [(.bptr none (CV.int .i64 x1) 0), (.bptr none (CV.slc none x2) 0)])], [([1000], (.row false (some 21) x3))] => R X (fun u => K (f51b_out u)) x0 x1 x2 x3
  | _, _ => none
def f51b_is (xs : List AVal) (ns : Nodes) : Bool := match xs, ns with
  | [(.osl [1000] (some 21) 0 x0), (.fn 41 [(.bptr none (CV.int .i64 x1) 0), (.bptr none (CV.slc none x2) 0)])], [([1000], (.row false (some 21) x3))] => true
  | _, _ => false
def f51b_plan : Nat → Option (List Nat × List Wk)
  | 0 => some ([0, 1], [])
  | 1 => some ([0, 1], [])
  | 2 => some ([0, 1, 5], [])
  | 3 => some ([0], [])
  | 4 => some ([0, 1, 5], [])
  | 5 => some ([0, 1, 5, 6], [])
  | 6 => some ([0, 1, 5, 6], [])
  | 7 => some ([0, 1, 5, 6], [])
  | 8 => some ([0, 1, 5, 6, 7], [])
  | 9 => some ([0, 1, 5, 6, 7], [])
  | 10 => some ([0, 1, 5, 6], [])
  | 11 => some ([0, 5], [])
  | 12 => some ([0, 5], [])
  | _ => none
def f51b_C (R_f48c : f48c_R) (R_f41 : f41_R) : Fns := (orC 41 (f41_cOf R_f41) (orC 48 (f48c_cOf R_f48c) noC))
theorem f51b_Cok (R_f48c : f48c_R) (R_f41 : f41_R) (hR_f48c : AnsOk Try.prog 48 (f48c_cOf R_f48c)) (hR_f41 : AnsOk Try.prog 41 (f41_cOf R_f41)) : CsOk Try.prog (f51b_C R_f48c R_f41) := (orC_ok hR_f41 (orC_ok hR_f48c noC_ok))
def f51b_cx (R_f48c : f48c_R) (R_f41 : f41_R) (hR_f48c : AnsOk Try.prog 48 (f48c_cOf R_f48c)) (hR_f41 : AnsOk Try.prog 41 (f41_cOf R_f41)) : Cx := mkCx (tabOf rows) (f51b_C R_f48c R_f41) md (cmpIn cmps) f51b_plan (f51b_Cok R_f48c R_f41 hR_f48c hR_f41)
def f51b_S1 (v : Nat × Int × (List CV) × Int × Int × (List CV)) : St := ⟨[(.osl [1000] (some 21) 0 v.1), (.fn 41 [(.bptr none (CV.int .i64 v.2.1) 0), (.bptr none (CV.slc none v.2.2.1) 0)]), .undef, .undef, .undef, (.v (CV.int .i64 v.2.2.2.1)), (.v (CV.int .i64 v.2.2.2.2.1)), .undef, .undef, .undef, .undef, .undef, .undef, .undef, .undef, .undef, .undef, .undef, .undef, .undef, .undef, .undef, .undef, .undef, .undef, .undef, .undef, .undef, .undef, .undef, .undef, .undef, .undef, .undef, .undef, .undef, .undef, .undef, .undef, .undef, .undef, .undef], [([1000], (.row false (some 21) v.2.2.2.2.2))]⟩
def f51b_J1 {X : Type} (R_f48c : f48c_R) (R_f41 : f41_R) (k : Nat) (K : Nat × (List CV) → Option X) (rec1 : Nat × Int × (List CV) × Int × Int × (List CV) → Option X) (v6_1 : Nat × Int × (List CV) × Int × Int × (List CV)) (v9 : Int × (List CV)) : Option X :=
rec1 (v6_1.1, v6_1.2.1, v6_1.2.2.1, v9.1, (IntKind.wrap .i64 (v6_1.2.2.2.2.1 + 1)), v9.2)
def f51b_T1 {X : Type} (R_f48c : f48c_R) (R_f41 : f41_R) (k : Nat) (K : Nat × (List CV) → Option X)   (rec1 : Nat × Int × (List CV) × Int × Int × (List CV) → Option X) (v6_1 : Nat × Int × (List CV) × Int × Int × (List CV)) : Option X :=
(bif (decide (v6_1.2.2.2.2.1 < (Nat.cast (v6_1.1) : Int))) then
grd (decide (0 ≤ v6_1.2.2.2.2.1)) <|
grd (decide (v6_1.2.2.2.2.1 < (Nat.cast (v6_1.1) : Int))) <|
Option.bind (v6_1.2.2.2.2.2)[(0 + (Int.toNat v6_1.2.2.2.2.1))]? fun e10 =>
grd (CV.isA 21 e10) <|
grd (CV.isI .i64 (CV.cellD 0 e10)) <|
grd (CV.isL none (CV.cellD 1 e10)) <|
grd (CV.isL none (CV.cellD 2 e10)) <|
grd (CV.isI .i64 (CV.cellD 3 e10)) <|
grd (CV.isI .i64 (CV.cellD 4 e10)) <|
grd (CV.isB (CV.cellD 5 e10)) <|
grd (CV.isB (CV.cellD 6 e10)) <|
grd (CV.isI .i64 (CV.cellD 7 e10)) <|
grd (CV.isI .i64 (CV.cellD 8 e10)) <|
grd (CV.isI .i64 (CV.cellD 9 e10)) <|
grd (CV.isB (CV.cellD 10 e10)) <|
grd (CV.isB (CV.cellD 11 e10)) <|
grd (CV.isB (CV.cellD 12 e10)) <|
grd (CV.isI .i64 (CV.cellD 13 e10)) <|
grd (CV.isI .i64 (CV.cellD 14 e10)) <|
grd (CV.isS (CV.cellD 15 e10)) <|
grd (CV.isL none (CV.cellD 16 e10)) <|
grd (CV.isI .i64 (CV.cellD 17 e10)) <|
grd (CV.isI .i64 (CV.cellD 18 e10)) <|
grd (CV.isI .i64 (CV.cellD 19 e10)) <|
grd (CV.isI .i64 (CV.cellD 20 e10)) <|
R_f41 _ (fun u11 =>
(bif (!u11) then
grd (decide (0 ≤ v6_1.2.2.2.1)) <|
grd (decide (v6_1.2.2.2.1 < (Nat.cast (v6_1.1) : Int))) <|
grd (decide ((0 + (Int.toNat v6_1.2.2.2.1)) < (List.length v6_1.2.2.2.2.2))) <|
f51b_J1 R_f48c R_f41 k K rec1 v6_1 ((IntKind.wrap .i64 (v6_1.2.2.2.1 + 1)), (List.set v6_1.2.2.2.2.2 (0 + (Int.toNat v6_1.2.2.2.1)) (CV.agg [(CV.int .i64 (CV.toI (CV.cellD 0 e10))), (CV.slc none (CV.toL (CV.cellD 1 e10))), (CV.slc none (CV.toL (CV.cellD 2 e10))), (CV.int .i64 (CV.toI (CV.cellD 3 e10))), (CV.int .i64 (CV.toI (CV.cellD 4 e10))), (CV.bool (CV.toB (CV.cellD 5 e10))), (CV.bool (CV.toB (CV.cellD 6 e10))), (CV.int .i64 (CV.toI (CV.cellD 7 e10))), (CV.int .i64 (CV.toI (CV.cellD 8 e10))), (CV.int .i64 (CV.toI (CV.cellD 9 e10))), (CV.bool (CV.toB (CV.cellD 10 e10))), (CV.bool (CV.toB (CV.cellD 11 e10))), (CV.bool (CV.toB (CV.cellD 12 e10))), (CV.int .i64 (CV.toI (CV.cellD 13 e10))), (CV.int .i64 (CV.toI (CV.cellD 14 e10))), (CV.str (CV.toS (CV.cellD 15 e10))), (CV.slc none (CV.toL (CV.cellD 16 e10))), (CV.int .i64 (CV.toI (CV.cellD 17 e10))), (CV.int .i64 (CV.toI (CV.cellD 18 e10))), (CV.int .i64 (CV.toI (CV.cellD 19 e10))), (CV.int .i64 (CV.toI (CV.cellD 20 e10)))])))
else
f51b_J1 R_f48c R_f41 k K rec1 v6_1 (v6_1.2.2.2.1, v6_1.2.2.2.2.2))) ((CV.agg [(CV.int .i64 (CV.toI (CV.cellD 0 e10))), (CV.slc none (CV.toL (CV.cellD 1 e10))), (CV.slc none (CV.toL (CV.cellD 2 e10))), (CV.int .i64 (CV.toI (CV.cellD 3 e10))), (CV.int .i64 (CV.toI (CV.cellD 4 e10))), (CV.bool (CV.toB (CV.cellD 5 e10))), (CV.bool (CV.toB (CV.cellD 6 e10))), (CV.int .i64 (CV.toI (CV.cellD 7 e10))), (CV.int .i64 (CV.toI (CV.cellD 8 e10))), (CV.int .i64 (CV.toI (CV.cellD 9 e10))), (CV.bool (CV.toB (CV.cellD 10 e10))), (CV.bool (CV.toB (CV.cellD 11 e10))), (CV.bool (CV.toB (CV.cellD 12 e10))), (CV.int .i64 (CV.toI (CV.cellD 13 e10))), (CV.int .i64 (CV.toI (CV.cellD 14 e10))), (CV.str (CV.toS (CV.cellD 15 e10))), (CV.slc none (CV.toL (CV.cellD 16 e10))), (CV.int .i64 (CV.toI (CV.cellD 17 e10))), (CV.int .i64 (CV.toI (CV.cellD 18 e10))), (CV.int .i64 (CV.toI (CV.cellD 19 e10))), (CV.int .i64 (CV.toI (CV.cellD 20 e10)))])) (v6_1.2.1) (v6_1.2.2.1)
else
grd (decide (0 ≤ v6_1.2.2.2.1)) <|
grd (decide (v6_1.2.2.2.1 ≤ (Nat.cast (v6_1.1) : Int))) <|
grd (decide ((Nat.cast (v6_1.1) : Int) ≤ (Nat.cast (v6_1.1) : Int))) <|
grd (decide (((0 + (Int.toNat v6_1.2.2.2.1)) + (v6_1.1 - (Int.toNat v6_1.2.2.2.1))) ≤ (List.length v6_1.2.2.2.2.2))) <|
grd (decide (0 ≤ v6_1.2.2.2.1)) <|
grd (decide (v6_1.2.2.2.1 ≤ ((Nat.cast ((List.length ((List.take (0 + (Int.toNat v6_1.2.2.2.1)) v6_1.2.2.2.2.2) ++ List.replicate (v6_1.1 - (Int.toNat v6_1.2.2.2.1)) (CV.agg [(CV.int .i64 0), (CV.slc none []), (CV.slc none []), (CV.int .i64 0), (CV.int .i64 0), (CV.bool false), (CV.bool false), (CV.int .i64 0), (CV.int .i64 0), (CV.int .i64 0), (CV.bool false), (CV.bool false), (CV.bool false), (CV.int .i64 0), (CV.int .i64 0), (CV.str ⟨#[]⟩), (CV.slc none []), (CV.int .i64 0), (CV.int .i64 0), (CV.int .i64 0), (CV.int .i64 0)]) ++ (List.drop ((0 + (Int.toNat v6_1.2.2.2.1)) + (v6_1.1 - (Int.toNat v6_1.2.2.2.1))) v6_1.2.2.2.2.2)))) : Int) - 0))) <|
K (((Int.toNat v6_1.2.2.2.1) - 0), (List.take (0 + ((Int.toNat v6_1.2.2.2.1) - 0)) ((List.take (0 + (Int.toNat v6_1.2.2.2.1)) v6_1.2.2.2.2.2) ++ List.replicate (v6_1.1 - (Int.toNat v6_1.2.2.2.1)) (CV.agg [(CV.int .i64 0), (CV.slc none []), (CV.slc none []), (CV.int .i64 0), (CV.int .i64 0), (CV.bool false), (CV.bool false), (CV.int .i64 0), (CV.int .i64 0), (CV.int .i64 0), (CV.bool false), (CV.bool false), (CV.bool false), (CV.int .i64 0), (CV.int .i64 0), (CV.str ⟨#[]⟩), (CV.slc none []), (CV.int .i64 0), (CV.int .i64 0), (CV.int .i64 0), (CV.int .i64 0)]) ++ (List.drop ((0 + (Int.toNat v6_1.2.2.2.1)) + (v6_1.1 - (Int.toNat v6_1.2.2.2.1))) v6_1.2.2.2.2.2)))))
def f51b_L1 {X : Type} (R_f48c : f48c_R) (R_f41 : f41_R) (k : Nat) (K : Nat × (List CV) → Option X)  (rec1 : Nat × Int × (List CV) × Int × Int × (List CV) → Option X) (v : Nat × Int × (List CV) × Int × Int × (List CV)) : Option X := f51b_T1 R_f48c R_f41 k K   rec1 v
set_option maxRecDepth 100000 in
theorem f51b_L1_ev {X : Type} (R_f48c : f48c_R) (R_f41 : f41_R) (hR_f48c : AnsOk Try.prog 48 (f48c_cOf R_f48c)) (hR_f41 : AnsOk Try.prog 41 (f41_cOf R_f41)) (k : Nat) (K : Out → Option X)  (r1 : St → Option X) (v : Nat × Int × (List CV) × Int × Int × (List CV)) : loopB (f51b_cx R_f48c R_f41 hR_f48c hR_f41) k [.r, .r, .r, .l, .r, .b] (Try.f51.body.getD .skip) (retK (f51b_cx R_f48c R_f41 hR_f48c hR_f41) [] Try.f51.results.toList K) [] r1 (f51b_S1 v) = f51b_T1 R_f48c R_f41 k (fun u => K (f51b_out u))   (fun v => r1 (f51b_S1 v)) v := by kernel_rfl
theorem f51b_L1_it {X : Type} (R_f48c : f48c_R) (R_f41 : f41_R) (hR_f48c : AnsOk Try.prog 48 (f48c_cOf R_f48c)) (hR_f41 : AnsOk Try.prog 41 (f41_cOf R_f41)) (k : Nat) (K : Out → Option X)  : (fun v => iter (loopB (f51b_cx R_f48c R_f41 hR_f48c hR_f41) k [.r, .r, .r, .l, .r, .b] (Try.f51.body.getD .skip) (retK (f51b_cx R_f48c R_f41 hR_f48c hR_f41) [] Try.f51.results.toList K) []) k (f51b_S1 v)) = iterV (f51b_L1 R_f48c R_f41 k (fun u => K (f51b_out u)) ) k :=
  iter_map (fun r1 v => (f51b_L1_ev R_f48c R_f41 hR_f48c hR_f41 k K  r1 v).trans rfl) k
def f51b_T {X : Type} (R_f48c : f48c_R) (R_f41 : f41_R) (k : Nat) (K : Nat × (List CV) → Option X) (loop1 : Nat × Int × (List CV) × Int × Int × (List CV) → Option X) (x0 : Nat) (x1 : Int) (x2 : List CV) (x3 : List CV) : Option X :=
R_f48c _ (fun u1 =>
(bif (u1 == (-1)) then
K (x0, (List.take (0 + x0) x3))
else
loop1 (x0, x1, x2, u1, (IntKind.wrap .i64 (u1 + 1)), x3))) ((List.take x0 (List.drop 0 x3))) (x1) (x2)
/-- "slices.DeleteFunc[[]outpost/watch.Watch,outpost/watch.Watch]" -/
def f51b_A (R_f48c : f48c_R) (R_f41 : f41_R) (k : Nat) : f51b_R := fun X K x0 x1 x2 x3 => f51b_T R_f48c R_f41 k K (iterV (f51b_L1 R_f48c R_f41 k K) k) x0 x1 x2 x3
set_option maxRecDepth 100000 in
theorem f51b_ev' {X : Type} (R_f48c : f48c_R) (R_f41 : f41_R) (hR_f48c : AnsOk Try.prog 48 (f48c_cOf R_f48c)) (hR_f41 : AnsOk Try.prog 41 (f41_cOf R_f41)) (k : Nat) (K : Out → Option X) (x0 : Nat) (x1 : Int) (x2 : List CV) (x3 : List CV) : evFn (f51b_cx R_f48c R_f41 hR_f48c hR_f41) [] k Try.f51.ntmps Try.f51.results.toList (Try.f51.body.getD .skip) [(.osl [1000] (some 21) 0 x0), (.fn 41 [(.bptr none (CV.int .i64 x1) 0), (.bptr none (CV.slc none x2) 0)])] [([1000], (.row false (some 21) x3))] K = f51b_T R_f48c R_f41 k (fun u => K (f51b_out u)) (fun v => iter (loopB (f51b_cx R_f48c R_f41 hR_f48c hR_f41) k [.r, .r, .r, .l, .r, .b] (Try.f51.body.getD .skip) (retK (f51b_cx R_f48c R_f41 hR_f48c hR_f41) [] Try.f51.results.toList K) []) k (f51b_S1 v)) x0 x1 x2 x3 := by kernel_rfl
theorem f51b_ev {X : Type} (R_f48c : f48c_R) (R_f41 : f41_R) (hR_f48c : AnsOk Try.prog 48 (f48c_cOf R_f48c)) (hR_f41 : AnsOk Try.prog 41 (f41_cOf R_f41)) (k : Nat) (K : Out → Option X) (x0 : Nat) (x1 : Int) (x2 : List CV) (x3 : List CV) : evFn (f51b_cx R_f48c R_f41 hR_f48c hR_f41) [] k Try.f51.ntmps Try.f51.results.toList (Try.f51.body.getD .skip) [(.osl [1000] (some 21) 0 x0), (.fn 41 [(.bptr none (CV.int .i64 x1) 0), (.bptr none (CV.slc none x2) 0)])] [([1000], (.row false (some 21) x3))] K = f51b_A R_f48c R_f41 k X (fun u => K (f51b_out u)) x0 x1 x2 x3 := (f51b_ev' R_f48c R_f41 hR_f48c hR_f41 k K x0 x1 x2 x3).trans (by rw [f51b_L1_it R_f48c R_f41 hR_f48c hR_f41 k K]; rfl)
theorem f51b_okA (R_f48c : f48c_R) (R_f41 : f41_R) (hR_f48c : AnsOk Try.prog 48 (f48c_cOf R_f48c)) (hR_f41 : AnsOk Try.prog 41 (f41_cOf R_f41)) (k : Nat) : AnsOk Try.prog 51 (f51b_cOf (f51b_A R_f48c R_f41 k)) := by
  intro X xs ns K x h
  unfold f51b_cOf at h ⊢
  split at h
  · exact ans_main S (f51b_Cok R_f48c R_f41 hR_f48c hR_f41) Try.func51 (ent_of Try.func51 (by kernel_rfl) rfl) rfl (fun X K => f51b_ev R_f48c R_f41 hR_f48c hR_f41 k K _ _ _ _) h
  · cases h
/-- "slices.DeleteFunc[[]outpost/watch.Watch,outpost/watch.Watch]" -/
def f51b {X : Type} (k : Nat) (K : Nat × (List CV) → Option X) (x0 : Nat) (x1 : Int) (x2 : List CV) (x3 : List CV) : Option X := f51b_A (fun X => @f48c X k) (fun X => @f41 X k) k X K x0 x1 x2 x3
theorem f51b_ok (k : Nat) : AnsOk Try.prog 51 (f51b_cOf (fun X => @f51b X k)) := f51b_okA (fun X => @f48c X k) (fun X => @f41 X k) (f48c_ok k) (f41_ok k) k
abbrev f40b_R : Type 1 := (X : Type) → (Int × Nat × (List CV) → Option X) → Int → (List CV) → Nat → (List CV) → Option X
def f40b_out (u : Int × Nat × (List CV)) : Out := ⟨(.v (CV.int .i64 u.1)), [([1000], (.obj [(.osl [0, 1000] (some 21) 0 u.2.1)])), ([0, 1000], (.row false (some 21) u.2.2))]⟩
def f40b_cOf (R : f40b_R) : FnC := fun X xs ns K => match xs, ns with
  | [(.ptr [1000] 0 0 0), (.fn 41 [(.bptr none (CV.int .i64 x0) 0), (.bptr none (CV.slc none x1) 0)])], [([1000], (.obj [(.osl [0, 1000] (some 21) 0 x2)])), ([0, 1000], (.row false (some 21) x3))] => R X (fun u => K (f40b_out u)) x0 x1 x2 x3
  | _, _ => none
def f40b_is (xs : List AVal) (ns : Nodes) : Bool := match xs, ns with
  | [(.ptr [1000] 0 0 0), (.fn 41 [(.bptr none (CV.int .i64 x0) 0), (.bptr none (CV.slc none x1) 0)])], [([1000], (.obj [(.osl [0, 1000] (some 21) 0 x2)])), ([0, 1000], (.row false (some 21) x3))] => true
  | _, _ => false
def f40b_plan : Nat → Option (List Nat × List Wk)
  | 0 => some ([0, 1], [])
  | 1 => some ([0, 1], [])
  | 2 => some ([0, 1, 5], [])
  | 3 => some ([0, 5], [])
  | _ => none
def f40b_C (R_f51b : f51b_R) : Fns := (orC 51 (f51b_cOf R_f51b) noC)
theorem f40b_Cok (R_f51b : f51b_R) (hR_f51b : AnsOk Try.prog 51 (f51b_cOf R_f51b)) : CsOk Try.prog (f40b_C R_f51b) := (orC_ok hR_f51b noC_ok)
def f40b_cx (R_f51b : f51b_R) (hR_f51b : AnsOk Try.prog 51 (f51b_cOf R_f51b)) : Cx := mkCx (tabOf rows) (f40b_C R_f51b) md (cmpIn cmps) f40b_plan (f40b_Cok R_f51b hR_f51b)
def f40b_T {X : Type} (R_f51b : f51b_R) (k : Nat) (K : Int × Nat × (List CV) → Option X)  (x0 : Int) (x1 : List CV) (x2 : Nat) (x3 : List CV) : Option X :=
R_f51b _ (fun u1 =>
K ((IntKind.wrap .i64 ((Nat.cast (x2) : Int) - (Nat.cast (u1.1) : Int))), u1.1, (List.take (0 + u1.1) u1.2))) (x2) (x0) (x1) (x3)
/-- "(*outpost/watch.Table).drop" -/
def f40b_A (R_f51b : f51b_R) (k : Nat) : f40b_R := fun X K x0 x1 x2 x3 => f40b_T R_f51b k K  x0 x1 x2 x3
set_option maxRecDepth 100000 in
theorem f40b_ev' {X : Type} (R_f51b : f51b_R) (hR_f51b : AnsOk Try.prog 51 (f51b_cOf R_f51b)) (k : Nat) (K : Out → Option X) (x0 : Int) (x1 : List CV) (x2 : Nat) (x3 : List CV) : evFn (f40b_cx R_f51b hR_f51b) [] k Try.f40.ntmps Try.f40.results.toList (Try.f40.body.getD .skip) [(.ptr [1000] 0 0 0), (.fn 41 [(.bptr none (CV.int .i64 x0) 0), (.bptr none (CV.slc none x1) 0)])] [([1000], (.obj [(.osl [0, 1000] (some 21) 0 x2)])), ([0, 1000], (.row false (some 21) x3))] K = f40b_T R_f51b k (fun u => K (f40b_out u)) x0 x1 x2 x3 := by kernel_rfl
theorem f40b_ev {X : Type} (R_f51b : f51b_R) (hR_f51b : AnsOk Try.prog 51 (f51b_cOf R_f51b)) (k : Nat) (K : Out → Option X) (x0 : Int) (x1 : List CV) (x2 : Nat) (x3 : List CV) : evFn (f40b_cx R_f51b hR_f51b) [] k Try.f40.ntmps Try.f40.results.toList (Try.f40.body.getD .skip) [(.ptr [1000] 0 0 0), (.fn 41 [(.bptr none (CV.int .i64 x0) 0), (.bptr none (CV.slc none x1) 0)])] [([1000], (.obj [(.osl [0, 1000] (some 21) 0 x2)])), ([0, 1000], (.row false (some 21) x3))] K = f40b_A R_f51b k X (fun u => K (f40b_out u)) x0 x1 x2 x3 := (f40b_ev' R_f51b hR_f51b k K x0 x1 x2 x3).trans rfl
theorem f40b_okA (R_f51b : f51b_R) (hR_f51b : AnsOk Try.prog 51 (f51b_cOf R_f51b)) (k : Nat) : AnsOk Try.prog 40 (f40b_cOf (f40b_A R_f51b k)) := by
  intro X xs ns K x h
  unfold f40b_cOf at h ⊢
  split at h
  · exact ans_main S (f40b_Cok R_f51b hR_f51b) Try.func40 (ent_of Try.func40 (by kernel_rfl) rfl) rfl (fun X K => f40b_ev R_f51b hR_f51b k K _ _ _ _) h
  · cases h
/-- "(*outpost/watch.Table).drop" -/
def f40b {X : Type} (k : Nat) (K : Int × Nat × (List CV) → Option X) (x0 : Int) (x1 : List CV) (x2 : Nat) (x3 : List CV) : Option X := f40b_A (fun X => @f51b X k) k X K x0 x1 x2 x3
theorem f40b_ok (k : Nat) : AnsOk Try.prog 40 (f40b_cOf (fun X => @f40b X k)) := f40b_okA (fun X => @f51b X k) (f51b_ok k) k
abbrev f21_R : Type 1 := (X : Type) → (Bool × Nat × (List CV) → Option X) → Int → (List CV) → Nat → (List CV) → Option X
def f21_out (u : Bool × Nat × (List CV)) : Out := ⟨(.v (CV.bool u.1)), [([1000], (.obj [(.osl [0, 1000] (some 21) 0 u.2.1)])), ([0, 1000], (.row false (some 21) u.2.2))]⟩
def f21_cOf (R : f21_R) : FnC := fun X xs ns K => match xs, ns with
  | [(.ptr [1000] 0 0 0), (.v (CV.int .i64 x0)), (.sl true none x1)], [([1000], (.obj [(.osl [0, 1000] (some 21) 0 x2)])), ([0, 1000], (.row false (some 21) x3))] => R X (fun u => K (f21_out u)) x0 x1 x2 x3
  | _, _ => none
def f21_plan : Nat → Option (List Nat × List Wk)
  | 0 => some ([0, 1, 2], [])
  | 1 => some ([0, 4, 5], [])
  | _ => none
def f21_C (R_f40b : f40b_R) : Fns := (orC 40 (f40b_cOf R_f40b) noC)
theorem f21_Cok (R_f40b : f40b_R) (hR_f40b : AnsOk Try.prog 40 (f40b_cOf R_f40b)) : CsOk Try.prog (f21_C R_f40b) := (orC_ok hR_f40b noC_ok)
def f21_cx (R_f40b : f40b_R) (hR_f40b : AnsOk Try.prog 40 (f40b_cOf R_f40b)) : Cx := mkCx (tabOf rows) (f21_C R_f40b) md (cmpIn cmps) f21_plan (f21_Cok R_f40b hR_f40b)
def f21_T {X : Type} (R_f40b : f40b_R) (k : Nat) (K : Bool × Nat × (List CV) → Option X)  (x0 : Int) (x1 : List CV) (x2 : Nat) (x3 : List CV) : Option X :=
R_f40b _ (fun u1 =>
K ((decide (u1.1 > 0)), u1.2.1, (List.take (0 + u1.2.1) u1.2.2))) (x0) (x1) (x2) (x3)
/-- "(*outpost/watch.Table).Drop" -/
def f21_A (R_f40b : f40b_R) (k : Nat) : f21_R := fun X K x0 x1 x2 x3 => f21_T R_f40b k K  x0 x1 x2 x3
set_option maxRecDepth 100000 in
theorem f21_ev' {X : Type} (R_f40b : f40b_R) (hR_f40b : AnsOk Try.prog 40 (f40b_cOf R_f40b)) (k : Nat) (K : Out → Option X) (x0 : Int) (x1 : List CV) (x2 : Nat) (x3 : List CV) : evFn (f21_cx R_f40b hR_f40b) [] k Try.f21.ntmps Try.f21.results.toList (Try.f21.body.getD .skip) [(.ptr [1000] 0 0 0), (.v (CV.int .i64 x0)), (.sl true none x1)] [([1000], (.obj [(.osl [0, 1000] (some 21) 0 x2)])), ([0, 1000], (.row false (some 21) x3))] K = f21_T R_f40b k (fun u => K (f21_out u)) x0 x1 x2 x3 := by kernel_rfl
theorem f21_ev {X : Type} (R_f40b : f40b_R) (hR_f40b : AnsOk Try.prog 40 (f40b_cOf R_f40b)) (k : Nat) (K : Out → Option X) (x0 : Int) (x1 : List CV) (x2 : Nat) (x3 : List CV) : evFn (f21_cx R_f40b hR_f40b) [] k Try.f21.ntmps Try.f21.results.toList (Try.f21.body.getD .skip) [(.ptr [1000] 0 0 0), (.v (CV.int .i64 x0)), (.sl true none x1)] [([1000], (.obj [(.osl [0, 1000] (some 21) 0 x2)])), ([0, 1000], (.row false (some 21) x3))] K = f21_A R_f40b k X (fun u => K (f21_out u)) x0 x1 x2 x3 := (f21_ev' R_f40b hR_f40b k K x0 x1 x2 x3).trans rfl
theorem f21_okA (R_f40b : f40b_R) (hR_f40b : AnsOk Try.prog 40 (f40b_cOf R_f40b)) (k : Nat) : AnsOk Try.prog 21 (f21_cOf (f21_A R_f40b k)) := by
  intro X xs ns K x h
  unfold f21_cOf at h ⊢
  split at h
  · exact ans_main S (f21_Cok R_f40b hR_f40b) Try.func21 (ent_of Try.func21 (by kernel_rfl) rfl) rfl (fun X K => f21_ev R_f40b hR_f40b k K _ _ _ _) h
  · cases h
/-- "(*outpost/watch.Table).Drop" -/
def f21 {X : Type} (k : Nat) (K : Bool × Nat × (List CV) → Option X) (x0 : Int) (x1 : List CV) (x2 : Nat) (x3 : List CV) : Option X := f21_A (fun X => @f40b X k) k X K x0 x1 x2 x3
theorem f21_ok (k : Nat) : AnsOk Try.prog 21 (f21_cOf (fun X => @f21 X k)) := f21_okA (fun X => @f40b X k) (f40b_ok k) k
abbrev f45_R : Type 1 := (X : Type) → (Bool → Option X) → CV → Int → Option X
def f45_out (u : Bool) : Out := ⟨(.v (CV.bool u)), []⟩
def f45_cOf (R : f45_R) : FnC := fun X xs ns K => match xs, ns with
  | [(.v x0), (.bptr none (CV.int .i64 x1) 0)], [] => R X (fun u => K (f45_out u)) x0 x1
  | _, _ => none
def f45_plan : Nat → Option (List Nat × List Wk)
  | 0 => some ([0, 1], [])
  | 1 => some ([1, 2], [])
  | _ => none
def f45_C : Fns := noC
theorem f45_Cok : CsOk Try.prog (f45_C) := noC_ok
def f45_cx : Cx := mkCx (tabOf rows) (f45_C) md (cmpIn cmps) f45_plan (f45_Cok)
def f45_T {X : Type} (k : Nat) (K : Bool → Option X)  (x0 : CV) (x1 : Int) : Option X :=
grd (CV.isA 21 x0) <|
grd (CV.isI .i64 (CV.cellD 0 x0)) <|
grd (CV.isL none (CV.cellD 1 x0)) <|
grd (CV.isL none (CV.cellD 2 x0)) <|
grd (CV.isI .i64 (CV.cellD 3 x0)) <|
grd (CV.isI .i64 (CV.cellD 4 x0)) <|
grd (CV.isB (CV.cellD 5 x0)) <|
grd (CV.isB (CV.cellD 6 x0)) <|
grd (CV.isI .i64 (CV.cellD 7 x0)) <|
grd (CV.isI .i64 (CV.cellD 8 x0)) <|
grd (CV.isI .i64 (CV.cellD 9 x0)) <|
grd (CV.isB (CV.cellD 10 x0)) <|
grd (CV.isB (CV.cellD 11 x0)) <|
grd (CV.isB (CV.cellD 12 x0)) <|
grd (CV.isI .i64 (CV.cellD 13 x0)) <|
grd (CV.isI .i64 (CV.cellD 14 x0)) <|
grd (CV.isS (CV.cellD 15 x0)) <|
grd (CV.isL none (CV.cellD 16 x0)) <|
grd (CV.isI .i64 (CV.cellD 17 x0)) <|
grd (CV.isI .i64 (CV.cellD 18 x0)) <|
grd (CV.isI .i64 (CV.cellD 19 x0)) <|
grd (CV.isI .i64 (CV.cellD 20 x0)) <|
K (((CV.toI (CV.cellD 0 x0)) == x1))
/-- "(*outpost/watch.Table).DropServer$1" -/
def f45_A (k : Nat) : f45_R := fun X K x0 x1 => f45_T k K  x0 x1
set_option maxRecDepth 100000 in
theorem f45_ev' {X : Type} (k : Nat) (K : Out → Option X) (x0 : CV) (x1 : Int) : evFn (f45_cx) [] k Try.f45.ntmps Try.f45.results.toList (Try.f45.body.getD .skip) [(.v x0), (.bptr none (CV.int .i64 x1) 0)] [] K = f45_T k (fun u => K (f45_out u)) x0 x1 := by kernel_rfl
theorem f45_ev {X : Type} (k : Nat) (K : Out → Option X) (x0 : CV) (x1 : Int) : evFn (f45_cx) [] k Try.f45.ntmps Try.f45.results.toList (Try.f45.body.getD .skip) [(.v x0), (.bptr none (CV.int .i64 x1) 0)] [] K = f45_A k X (fun u => K (f45_out u)) x0 x1 := (f45_ev' k K x0 x1).trans rfl
theorem f45_okA (k : Nat) : AnsOk Try.prog 45 (f45_cOf (f45_A k)) := by
  intro X xs ns K x h
  unfold f45_cOf at h ⊢
  split at h
  · exact ans_main S (f45_Cok) Try.func45 (ent_of Try.func45 (by kernel_rfl) rfl) rfl (fun X K => f45_ev k K _ _) h
  · cases h
/-- "(*outpost/watch.Table).DropServer$1" -/
def f45 {X : Type} (k : Nat) (K : Bool → Option X) (x0 : CV) (x1 : Int) : Option X := f45_A k X K x0 x1
theorem f45_ok (k : Nat) : AnsOk Try.prog 45 (f45_cOf (fun X => @f45 X k)) := f45_okA k
abbrev f48d_R : Type 1 := (X : Type) → (Int → Option X) → (List CV) → Int → Option X
def f48d_out (u : Int) : Out := ⟨(.v (CV.int .i64 u)), []⟩
def f48d_cOf (R : f48d_R) : FnC := fun X xs ns K => match xs, ns with
  | [(.sl false (some 21) x0), (.fn 45 [(.bptr none (CV.int .i64 x1) 0)])], [] => R X (fun u => K (f48d_out u)) x0 x1
  | _, _ => none
def f48d_is (xs : List AVal) (ns : Nodes) : Bool := match xs, ns with
  | [(.sl false (some 21) x0), (.fn 45 [(.bptr none (CV.int .i64 x1) 0)])], [] => true
  | _, _ => false
def f48d_plan : Nat → Option (List Nat × List Wk)
  | 0 => some ([0, 1], [])
  | 1 => some ([0, 1], [])
  | 2 => some ([0, 1, 7, 8], [])
  | 3 => some ([0, 1, 7, 8], [])
  | 4 => some ([0, 1, 5, 7, 8], [])
  | 5 => some ([5], [])
  | 6 => some ([0, 1, 7, 8], [])
  | 7 => some ([], [])
  | _ => none
def f48d_C (R_f45 : f45_R) : Fns := (orC 45 (f45_cOf R_f45) noC)
theorem f48d_Cok (R_f45 : f45_R) (hR_f45 : AnsOk Try.prog 45 (f45_cOf R_f45)) : CsOk Try.prog (f48d_C R_f45) := (orC_ok hR_f45 noC_ok)
def f48d_cx (R_f45 : f45_R) (hR_f45 : AnsOk Try.prog 45 (f45_cOf R_f45)) : Cx := mkCx (tabOf rows) (f48d_C R_f45) md (cmpIn cmps) f48d_plan (f48d_Cok R_f45 hR_f45)
def f48d_S1 (v : (List CV) × Int × Int × Int) : St := ⟨[(.sl false (some 21) v.1), (.fn 45 [(.bptr none (CV.int .i64 v.2.1) 0)]), .undef, .undef, .undef, .undef, .undef, (.v (CV.int .i64 v.2.2.1)), (.v (CV.int .i64 v.2.2.2)), .undef, .undef, .undef, .undef, .undef, .undef, .undef, .undef, .undef, .undef], []⟩
def f48d_T1 {X : Type} (R_f45 : f45_R) (k : Nat) (K : Int → Option X)   (rec1 : (List CV) × Int × Int × Int → Option X) (v4_0 : (List CV) × Int × Int × Int) : Option X :=
(bif (decide (v4_0.2.2.2 < v4_0.2.2.1)) then
grd (decide (0 ≤ v4_0.2.2.2)) <|
Option.bind (v4_0.1)[(Int.toNat v4_0.2.2.2)]? fun e8 =>
R_f45 _ (fun u9 =>
(bif u9 then
K (v4_0.2.2.2)
else
rec1 (v4_0.1, v4_0.2.1, v4_0.2.2.1, (IntKind.wrap .i64 (v4_0.2.2.2 + 1))))) (e8) (v4_0.2.1)
else
K ((-1)))
def f48d_L1 {X : Type} (R_f45 : f45_R) (k : Nat) (K : Int → Option X)  (rec1 : (List CV) × Int × Int × Int → Option X) (v : (List CV) × Int × Int × Int) : Option X := f48d_T1 R_f45 k K   rec1 v
set_option maxRecDepth 100000 in
theorem f48d_L1_ev {X : Type} (R_f45 : f45_R) (hR_f45 : AnsOk Try.prog 45 (f45_cOf R_f45)) (k : Nat) (K : Out → Option X)  (r1 : St → Option X) (v : (List CV) × Int × Int × Int) : loopB (f48d_cx R_f45 hR_f45) k [.r, .l, .r, .b] (Try.f48.body.getD .skip) (retK (f48d_cx R_f45 hR_f45) [] Try.f48.results.toList K) [] r1 (f48d_S1 v) = f48d_T1 R_f45 k (fun u => K (f48d_out u))   (fun v => r1 (f48d_S1 v)) v := by kernel_rfl
theorem f48d_L1_it {X : Type} (R_f45 : f45_R) (hR_f45 : AnsOk Try.prog 45 (f45_cOf R_f45)) (k : Nat) (K : Out → Option X)  : (fun v => iter (loopB (f48d_cx R_f45 hR_f45) k [.r, .l, .r, .b] (Try.f48.body.getD .skip) (retK (f48d_cx R_f45 hR_f45) [] Try.f48.results.toList K) []) k (f48d_S1 v)) = iterV (f48d_L1 R_f45 k (fun u => K (f48d_out u)) ) k :=
  iter_map (fun r1 v => (f48d_L1_ev R_f45 hR_f45 k K  r1 v).trans rfl) k
def f48d_T {X : Type} (R_f45 : f45_R) (k : Nat) (K : Int → Option X) (loop1 : (List CV) × Int × Int × Int → Option X) (x0 : List CV) (x1 : Int) : Option X :=
loop1 (x0, x1, (Nat.cast ((List.length x0)) : Int), 0)
/-- "slices.IndexFunc[[]outpost/watch.Watch,outpost/watch.Watch]" -/
def f48d_A (R_f45 : f45_R) (k : Nat) : f48d_R := fun X K x0 x1 => f48d_T R_f45 k K (iterV (f48d_L1 R_f45 k K) k) x0 x1
set_option maxRecDepth 100000 in
theorem f48d_ev' {X : Type} (R_f45 : f45_R) (hR_f45 : AnsOk Try.prog 45 (f45_cOf R_f45)) (k : Nat) (K : Out → Option X) (x0 : List CV) (x1 : Int) : evFn (f48d_cx R_f45 hR_f45) [] k Try.f48.ntmps Try.f48.results.toList (Try.f48.body.getD .skip) [(.sl false (some 21) x0), (.fn 45 [(.bptr none (CV.int .i64 x1) 0)])] [] K = f48d_T R_f45 k (fun u => K (f48d_out u)) (fun v => iter (loopB (f48d_cx R_f45 hR_f45) k [.r, .l, .r, .b] (Try.f48.body.getD .skip) (retK (f48d_cx R_f45 hR_f45) [] Try.f48.results.toList K) []) k (f48d_S1 v)) x0 x1 := by kernel_rfl
theorem f48d_ev {X : Type} (R_f45 : f45_R) (hR_f45 : AnsOk Try.prog 45 (f45_cOf R_f45)) (k : Nat) (K : Out → Option X) (x0 : List CV) (x1 : Int) : evFn (f48d_cx R_f45 hR_f45) [] k Try.f48.ntmps Try.f48.results.toList (Try.f48.body.getD .skip) [(.sl false (some 21) x0), (.fn 45 [(.bptr none (CV.int .i64 x1) 0)])] [] K = f48d_A R_f45 k X (fun u => K (f48d_out u)) x0 x1 := (f48d_ev' R_f45 hR_f45 k K x0 x1).trans (by rw [f48d_L1_it R_f45 hR_f45 k K]; rfl)
theorem f48d_okA (R_f45 : f45_R) (hR_f45 : AnsOk Try.prog 45 (f45_cOf R_f45)) (k : Nat) : AnsOk Try.prog 48 (f48d_cOf (f48d_A R_f45 k)) := by
  intro X xs ns K x h
  unfold f48d_cOf at h ⊢
  split at h
  · exact ans_main S (f48d_Cok R_f45 hR_f45) Try.func48 (ent_of Try.func48 (by kernel_rfl) rfl) rfl (fun X K => f48d_ev R_f45 hR_f45 k K _ _) h
  · cases h
/-- "slices.IndexFunc[[]outpost/watch.Watch,outpost/watch.Watch]" -/
def f48d {X : Type} (k : Nat) (K : Int → Option X) (x0 : List CV) (x1 : Int) : Option X := f48d_A (fun X => @f45 X k) k X K x0 x1
theorem f48d_ok (k : Nat) : AnsOk Try.prog 48 (f48d_cOf (fun X => @f48d X k)) := f48d_okA (fun X => @f45 X k) (f45_ok k) k
abbrev f51c_R : Type 1 := (X : Type) → (Nat × (List CV) → Option X) → Nat → Int → (List CV) → Option X
def f51c_out (u : Nat × (List CV)) : Out := ⟨(.osl [2000] (some 21) 0 u.1), [([2000], (.row false (some 21) u.2))]⟩
def f51c_cOf (R : f51c_R) : FnC := fun X xs ns K => match xs, ns with
  | [(.osl [1000] (some 21) 0 x0), (.fn 45 [(.bptr none (CV.int .i64 x1) 0)])], [([1000], (.row false (some 21) x2))] => R X (fun u => K (f51c_out u)) x0 x1 x2
  | _, _ => none
def f51c_is (xs : List AVal) (ns : Nodes) : Bool := match xs, ns with
  | [(.osl [1000] (some 21) 0 x0), (.fn 45 [(.bptr none (CV.int .i64 x1) 0)])], [([1000], (.row false (some 21) x2))] => true
  | _, _ => false
def f51c_plan : Nat → Option (List Nat × List Wk)
  | 0 => some ([0, 1], [])
  | 1 => some ([0, 1], [])
  | 2 => some ([0, 1, 5], [])
  | 3 => some ([0], [])
  | 4 => some ([0, 1, 5], [])
  | 5 => some ([0, 1, 5, 6], [])
  | 6 => some ([0, 1, 5, 6], [])
  | 7 => some ([0, 1, 5, 6], [])
  | 8 => some ([0, 1, 5, 6, 7], [])
  | 9 => some ([0, 1, 5, 6, 7], [])
  | 10 => some ([0, 1, 5, 6], [])
  | 11 => some ([0, 5], [])
  | 12 => some ([0, 5], [])
  | _ => none
def f51c_C (R_f48d : f48d_R) (R_f45 : f45_R) : Fns := (orC 45 (f45_cOf R_f45) (orC 48 (f48d_cOf R_f48d) noC))
theorem f51c_Cok (R_f48d : f48d_R) (R_f45 : f45_R) (hR_f48d : AnsOk Try.prog 48 (f48d_cOf R_f48d)) (hR_f45 : AnsOk Try.prog 45 (f45_cOf R_f45)) : CsOk Try.prog (f51c_C R_f48d R_f45) := (orC_ok hR_f45 (orC_ok hR_f48d noC_ok))
def f51c_cx (R_f48d : f48d_R) (R_f45 : f45_R) (hR_f48d : AnsOk Try.prog 48 (f48d_cOf R_f48d)) (hR_f45 : AnsOk Try.prog 45 (f45_cOf R_f45)) : Cx := mkCx (tabOf rows) (f51c_C R_f48d R_f45) md (cmpIn cmps) f51c_plan (f51c_Cok R_f48d R_f45 hR_f48d hR_f45)
def f51c_S1 (v : Nat × Int × Int × Int × (List CV)) : St := ⟨[(.osl [1000] (some 21) 0 v.1), (.fn 45 [(.bptr none (CV.int .i64 v.2.1) 0)]), .undef, .undef, .undef, (.v (CV.int .i64 v.2.2.1)), (.v (CV.int .i64 v.2.2.2.1)), .undef, .undef, .undef, .undef, .undef, .undef, .undef, .undef, .undef, .undef, .undef, .undef, .undef, .undef, .undef, .undef, .undef, .undef, .undef, .undef, .undef, .undef, .undef, .undef, .undef, .undef, .undef, .undef, .undef, .undef, .undef, .undef, .undef, .undef, .undef], [([1000], (.row false (some 21) v.2.2.2.2))]⟩
def f51c_J1 {X : Type} (R_f48d : f48d_R) (R_f45 : f45_R) (k : Nat) (K : Nat × (List CV) → Option X) (rec1 : Nat × Int × Int × Int × (List CV) → Option X) (v6_1 : Nat × Int × Int × Int × (List CV)) (v9 : Int × (List CV)) : Option X :=
rec1 (v6_1.1, v6_1.2.1, v9.1, (IntKind.wrap .i64 (v6_1.2.2.2.1 + 1)), v9.2)
def f51c_T1 {X : Type} (R_f48d : f48d_R) (R_f45 : f45_R) (k : Nat) (K : Nat × (List CV) → Option X)   (rec1 : Nat × Int × Int × Int × (List CV) → Option X) (v6_1 : Nat × Int × Int × Int × (List CV)) : Option X :=
(bif (decide (v6_1.2.2.2.1 < (Nat.cast (v6_1.1) : Int))) then
grd (decide (0 ≤ v6_1.2.2.2.1)) <|
grd (decide (v6_1.2.2.2.1 < (Nat.cast (v6_1.1) : Int))) <|
Option.bind (v6_1.2.2.2.2)[(0 + (Int.toNat v6_1.2.2.2.1))]? fun e10 =>
grd (CV.isA 21 e10) <|
grd (CV.isI .i64 (CV.cellD 0 e10)) <|
grd (CV.isL none (CV.cellD 1 e10)) <|
grd (CV.isL none (CV.cellD 2 e10)) <|
grd (CV.isI .i64 (CV.cellD 3 e10)) <|
grd (CV.isI .i64 (CV.cellD 4 e10)) <|
grd (CV.isB (CV.cellD 5 e10)) <|
grd (CV.isB (CV.cellD 6 e10)) <|
grd (CV.isI .i64 (CV.cellD 7 e10)) <|
grd (CV.isI .i64 (CV.cellD 8 e10)) <|
grd (CV.isI .i64 (CV.cellD 9 e10)) <|
grd (CV.isB (CV.cellD 10 e10)) <|
grd (CV.isB (CV.cellD 11 e10)) <|
grd (CV.isB (CV.cellD 12 e10)) <|
grd (CV.isI .i64 (CV.cellD 13 e10)) <|
grd (CV.isI .i64 (CV.cellD 14 e10)) <|
grd (CV.isS (CV.cellD 15 e10)) <|
grd (CV.isL none (CV.cellD 16 e10)) <|
grd (CV.isI .i64 (CV.cellD 17 e10)) <|
grd (CV.isI .i64 (CV.cellD 18 e10)) <|
grd (CV.isI .i64 (CV.cellD 19 e10)) <|
grd (CV.isI .i64 (CV.cellD 20 e10)) <|
R_f45 _ (fun u11 =>
(bif (!u11) then
grd (decide (0 ≤ v6_1.2.2.1)) <|
grd (decide (v6_1.2.2.1 < (Nat.cast (v6_1.1) : Int))) <|
grd (decide ((0 + (Int.toNat v6_1.2.2.1)) < (List.length v6_1.2.2.2.2))) <|
f51c_J1 R_f48d R_f45 k K rec1 v6_1 ((IntKind.wrap .i64 (v6_1.2.2.1 + 1)), (List.set v6_1.2.2.2.2 (0 + (Int.toNat v6_1.2.2.1)) (CV.agg [(CV.int .i64 (CV.toI (CV.cellD 0 e10))), (CV.slc none (CV.toL (CV.cellD 1 e10))), (CV.slc none (CV.toL (CV.cellD 2 e10))), (CV.int .i64 (CV.toI (CV.cellD 3 e10))), (CV.int .i64 (CV.toI (CV.cellD 4 e10))), (CV.bool (CV.toB (CV.cellD 5 e10))), (CV.bool (CV.toB (CV.cellD 6 e10))), (CV.int .i64 (CV.toI (CV.cellD 7 e10))), (CV.int .i64 (CV.toI (CV.cellD 8 e10))), (CV.int .i64 (CV.toI (CV.cellD 9 e10))), (CV.bool (CV.toB (CV.cellD 10 e10))), (CV.bool (CV.toB (CV.cellD 11 e10))), (CV.bool (CV.toB (CV.cellD 12 e10))), (CV.int .i64 (CV.toI (CV.cellD 13 e10))), (CV.int .i64 (CV.toI (CV.cellD 14 e10))), (CV.str (CV.toS (CV.cellD 15 e10))), (CV.slc none (CV.toL (CV.cellD 16 e10))), (CV.int .i64 (CV.toI (CV.cellD 17 e10))), (CV.int .i64 (CV.toI (CV.cellD 18 e10))), (CV.int .i64 (CV.toI (CV.cellD 19 e10))), (CV.int .i64 (CV.toI (CV.cellD 20 e10)))])))
else
f51c_J1 R_f48d R_f45 k K rec1 v6_1 (v6_1.2.2.1, v6_1.2.2.2.2))) ((CV.agg [(CV.int .i64 (CV.toI (CV.cellD 0 e10))), (CV.slc none (CV.toL (CV.cellD 1 e10))), (CV.slc none (CV.toL (CV.cellD 2 e10))), (CV.int .i64 (CV.toI (CV.cellD 3 e10))), (CV.int .i64 (CV.toI (CV.cellD 4 e10))), (CV.bool (CV.toB (CV.cellD 5 e10))), (CV.bool (CV.toB (CV.cellD 6 e10))), (CV.int .i64 (CV.toI (CV.cellD 7 e10))), (CV.int .i64 (CV.toI (CV.cellD 8 e10))), (CV.int .i64 (CV.toI (CV.cellD 9 e10))), (CV.bool (CV.toB (CV.cellD 10 e10))), (CV.bool (CV.toB (CV.cellD 11 e10))), (CV.bool (CV.toB (CV.cellD 12 e10))), (CV.int .i64 (CV.toI (CV.cellD 13 e10))), (CV.int .i64 (CV.toI (CV.cellD 14 e10))), (CV.str (CV.toS (CV.cellD 15 e10))), (CV.slc none (CV.toL (CV.cellD 16 e10))), (CV.int .i64 (CV.toI (CV.cellD 17 e10))), (CV.int .i64 (CV.toI (CV.cellD 18 e10))), (CV.int .i64 (CV.toI (CV.cellD 19 e10))), (CV.int .i64 (CV.toI (CV.cellD 20 e10)))])) (v6_1.2.1)
else
grd (decide (0 ≤ v6_1.2.2.1)) <|
grd (decide (v6_1.2.2.1 ≤ (Nat.cast (v6_1.1) : Int))) <|
grd (decide ((Nat.cast (v6_1.1) : Int) ≤ (Nat.cast (v6_1.1) : Int))) <|
grd (decide (((0 + (Int.toNat v6_1.2.2.1)) + (v6_1.1 - (Int.toNat v6_1.2.2.1))) ≤ (List.length v6_1.2.2.2.2))) <|
grd (decide (0 ≤ v6_1.2.2.1)) <|
grd (decide (v6_1.2.2.1 ≤ ((Nat.cast ((List.length ((List.take (0 + (Int.toNat v6_1.2.2.1)) v6_1.2.2.2.2) ++ List.replicate (v6_1.1 - (Int.toNat v6_1.2.2.1)) (CV.agg [(CV.int .i64 0), (CV.slc none []), (CV.slc none []), (CV.int .i64 0), (CV.int .i64 0), (CV.bool false), (CV.bool false), (CV.int .i64 0), (CV.int .i64 0), (CV.int .i64 0), (CV.bool false), (CV.bool false), (CV.bool false), (CV.int .i64 0), (CV.int .i64 0), (CV.str ⟨#[]⟩), (CV.slc none []), (CV.int .i64 0), (CV.int .i64 0), (CV.int .i64 0), (CV.int .i64 0)]) ++ (List.drop ((0 + (Int.toNat v6_1.2.2.1)) + (v6_1.1 - (Int.toNat v6_1.2.2.1))) v6_1.2.2.2.2)))) : Int) - 0))) <|
K (((Int.toNat v6_1.2.2.1) - 0), (List.take (0 + ((Int.toNat v6_1.2.2.1) - 0)) ((List.take (0 + (Int.toNat v6_1.2.2.1)) v6_1.2.2.2.2) ++ List.replicate (v6_1.1 - (Int.toNat v6_1.2.2.1)) (CV.agg [(CV.int .i64 0), (CV.slc none []), (CV.slc none []), (CV.int .i64 0), (CV.int .i64 0), (CV.bool false), (CV.bool false), (CV.int .i64 0), (CV.int .i64 0), (CV.int .i64 0), (CV.bool false), (CV.bool false), (CV.bool false), (CV.int .i64 0), (CV.int .i64 0), (CV.str ⟨#[]⟩), (CV.slc none []), (CV.int .i64 0), (CV.int .i64 0), (CV.int .i64 0), (CV.int .i64 0)]) ++ (List.drop ((0 + (Int.toNat v6_1.2.2.1)) + (v6_1.1 - (Int.toNat v6_1.2.2.1))) v6_1.2.2.2.2)))))
def f51c_L1 {X : Type} (R_f48d : f48d_R) (R_f45 : f45_R) (k : Nat) (K : Nat × (List CV) → Option X)  (rec1 : Nat × Int × Int × Int × (List CV) → Option X) (v : Nat × Int × Int × Int × (List CV)) : Option X := f51c_T1 R_f48d R_f45 k K   rec1 v
set_option maxRecDepth 100000 in
theorem f51c_L1_ev {X : Type} (R_f48d : f48d_R) (R_f45 : f45_R) (hR_f48d : AnsOk Try.prog 48 (f48d_cOf R_f48d)) (hR_f45 : AnsOk Try.prog 45 (f45_cOf R_f45)) (k : Nat) (K : Out → Option X)  (r1 : St → Option X) (v : Nat × Int × Int × Int × (List CV)) : loopB (f51c_cx R_f48d R_f45 hR_f48d hR_f45) k [.r, .r, .r, .l, .r, .b] (Try.f51.body.getD .skip) (retK (f51c_cx R_f48d R_f45 hR_f48d hR_f45) [] Try.f51.results.toList K) [] r1 (f51c_S1 v) = f51c_T1 R_f48d R_f45 k (fun u => K (f51c_out u))   (fun v => r1 (f51c_S1 v)) v := by kernel_rfl
theorem f51c_L1_it {X : Type} (R_f48d : f48d_R) (R_f45 : f45_R) (hR_f48d : AnsOk Try.prog 48 (f48d_cOf R_f48d)) (hR_f45 : AnsOk Try.prog 45 (f45_cOf R_f45)) (k : Nat) (K : Out → Option X)  : (fun v => iter (loopB (f51c_cx R_f48d R_f45 hR_f48d hR_f45) k [.r, .r, .r, .l, .r, .b] (Try.f51.body.getD .skip) (retK (f51c_cx R_f48d R_f45 hR_f48d hR_f45) [] Try.f51.results.toList K) []) k (f51c_S1 v)) = iterV (f51c_L1 R_f48d R_f45 k (fun u => K (f51c_out u)) ) k :=
  iter_map (fun r1 v => (f51c_L1_ev R_f48d R_f45 hR_f48d hR_f45 k K  r1 v).trans rfl) k
def f51c_T {X : Type} (R_f48d : f48d_R) (R_f45 : f45_R) (k : Nat) (K : Nat × (List CV) → Option X) (loop1 : Nat × Int × Int × Int × (List CV) → Option X) (x0 : Nat) (x1 : Int) (x2 : List CV) : Option X :=
R_f48d _ (fun u1 =>
(bif (u1 == (-1)) then
K (x0, (List.take (0 + x0) x2))
else
loop1 (x0, x1, u1, (IntKind.wrap .i64 (u1 + 1)), x2))) ((List.take x0 (List.drop 0 x2))) (x1)
/-- "slices.DeleteFunc[[]outpost/watch.Watch,outpost/watch.Watch]" -/
def f51c_A (R_f48d : f48d_R) (R_f45 : f45_R) (k : Nat) : f51c_R := fun X K x0 x1 x2 => f51c_T R_f48d R_f45 k K (iterV (f51c_L1 R_f48d R_f45 k K) k) x0 x1 x2
set_option maxRecDepth 100000 in
theorem f51c_ev' {X : Type} (R_f48d : f48d_R) (R_f45 : f45_R) (hR_f48d : AnsOk Try.prog 48 (f48d_cOf R_f48d)) (hR_f45 : AnsOk Try.prog 45 (f45_cOf R_f45)) (k : Nat) (K : Out → Option X) (x0 : Nat) (x1 : Int) (x2 : List CV) : evFn (f51c_cx R_f48d R_f45 hR_f48d hR_f45) [] k Try.f51.ntmps Try.f51.results.toList (Try.f51.body.getD .skip) [(.osl [1000] (some 21) 0 x0), (.fn 45 [(.bptr none (CV.int .i64 x1) 0)])] [([1000], (.row false (some 21) x2))] K = f51c_T R_f48d R_f45 k (fun u => K (f51c_out u)) (fun v => iter (loopB (f51c_cx R_f48d R_f45 hR_f48d hR_f45) k [.r, .r, .r, .l, .r, .b] (Try.f51.body.getD .skip) (retK (f51c_cx R_f48d R_f45 hR_f48d hR_f45) [] Try.f51.results.toList K) []) k (f51c_S1 v)) x0 x1 x2 := by kernel_rfl
theorem f51c_ev {X : Type} (R_f48d : f48d_R) (R_f45 : f45_R) (hR_f48d : AnsOk Try.prog 48 (f48d_cOf R_f48d)) (hR_f45 : AnsOk Try.prog 45 (f45_cOf R_f45)) (k : Nat) (K : Out → Option X) (x0 : Nat) (x1 : Int) (x2 : List CV) : evFn (f51c_cx R_f48d R_f45 hR_f48d hR_f45) [] k Try.f51.ntmps Try.f51.results.toList (Try.f51.body.getD .skip) [(.osl [1000] (some 21) 0 x0), (.fn 45 [(.bptr none (CV.int .i64 x1) 0)])] [([1000], (.row false (some 21) x2))] K = f51c_A R_f48d R_f45 k X (fun u => K (f51c_out u)) x0 x1 x2 := (f51c_ev' R_f48d R_f45 hR_f48d hR_f45 k K x0 x1 x2).trans (by rw [f51c_L1_it R_f48d R_f45 hR_f48d hR_f45 k K]; rfl)
theorem f51c_okA (R_f48d : f48d_R) (R_f45 : f45_R) (hR_f48d : AnsOk Try.prog 48 (f48d_cOf R_f48d)) (hR_f45 : AnsOk Try.prog 45 (f45_cOf R_f45)) (k : Nat) : AnsOk Try.prog 51 (f51c_cOf (f51c_A R_f48d R_f45 k)) := by
  intro X xs ns K x h
  unfold f51c_cOf at h ⊢
  split at h
  · exact ans_main S (f51c_Cok R_f48d R_f45 hR_f48d hR_f45) Try.func51 (ent_of Try.func51 (by kernel_rfl) rfl) rfl (fun X K => f51c_ev R_f48d R_f45 hR_f48d hR_f45 k K _ _ _) h
  · cases h
/-- "slices.DeleteFunc[[]outpost/watch.Watch,outpost/watch.Watch]" -/
def f51c {X : Type} (k : Nat) (K : Nat × (List CV) → Option X) (x0 : Nat) (x1 : Int) (x2 : List CV) : Option X := f51c_A (fun X => @f48d X k) (fun X => @f45 X k) k X K x0 x1 x2
theorem f51c_ok (k : Nat) : AnsOk Try.prog 51 (f51c_cOf (fun X => @f51c X k)) := f51c_okA (fun X => @f48d X k) (fun X => @f45 X k) (f48d_ok k) (f45_ok k) k
abbrev f40c_R : Type 1 := (X : Type) → (Int × Nat × (List CV) → Option X) → Int → Nat → (List CV) → Option X
def f40c_out (u : Int × Nat × (List CV)) : Out := ⟨(.v (CV.int .i64 u.1)), [([1000], (.obj [(.osl [0, 1000] (some 21) 0 u.2.1)])), ([0, 1000], (.row false (some 21) u.2.2))]⟩
def f40c_cOf (R : f40c_R) : FnC := fun X xs ns K => match xs, ns with
  | [(.ptr [1000] 0 0 0), (.fn 45 [(.bptr none (CV.int .i64 x0) 0)])], [([1000], (.obj [(.osl [0, 1000] (some 21) 0 x1)])), ([0, 1000], (.row false (some 21) x2))] => R X (fun u => K (f40c_out u)) x0 x1 x2
  | _, _ => none
def f40c_is (xs : List AVal) (ns : Nodes) : Bool := match xs, ns with
  | [(.ptr [1000] 0 0 0), (.fn 45 [(.bptr none (CV.int .i64 x0) 0)])], [([1000], (.obj [(.osl [0, 1000] (some 21) 0 x1)])), ([0, 1000], (.row false (some 21) x2))] => true
  | _, _ => false
def f40c_plan : Nat → Option (List Nat × List Wk)
  | 0 => some ([0, 1], [])
  | 1 => some ([0, 1], [])
  | 2 => some ([0, 1, 5], [])
  | 3 => some ([0, 5], [])
  | _ => none
def f40c_C (R_f51c : f51c_R) : Fns := (orC 51 (f51c_cOf R_f51c) noC)
theorem f40c_Cok (R_f51c : f51c_R) (hR_f51c : AnsOk Try.prog 51 (f51c_cOf R_f51c)) : CsOk Try.prog (f40c_C R_f51c) := (orC_ok hR_f51c noC_ok)
def f40c_cx (R_f51c : f51c_R) (hR_f51c : AnsOk Try.prog 51 (f51c_cOf R_f51c)) : Cx := mkCx (tabOf rows) (f40c_C R_f51c) md (cmpIn cmps) f40c_plan (f40c_Cok R_f51c hR_f51c)
def f40c_T {X : Type} (R_f51c : f51c_R) (k : Nat) (K : Int × Nat × (List CV) → Option X)  (x0 : Int) (x1 : Nat) (x2 : List CV) : Option X :=
R_f51c _ (fun u1 =>
K ((IntKind.wrap .i64 ((Nat.cast (x1) : Int) - (Nat.cast (u1.1) : Int))), u1.1, (List.take (0 + u1.1) u1.2))) (x1) (x0) (x2)
/-- "(*outpost/watch.Table).drop" -/
def f40c_A (R_f51c : f51c_R) (k : Nat) : f40c_R := fun X K x0 x1 x2 => f40c_T R_f51c k K  x0 x1 x2
set_option maxRecDepth 100000 in
theorem f40c_ev' {X : Type} (R_f51c : f51c_R) (hR_f51c : AnsOk Try.prog 51 (f51c_cOf R_f51c)) (k : Nat) (K : Out → Option X) (x0 : Int) (x1 : Nat) (x2 : List CV) : evFn (f40c_cx R_f51c hR_f51c) [] k Try.f40.ntmps Try.f40.results.toList (Try.f40.body.getD .skip) [(.ptr [1000] 0 0 0), (.fn 45 [(.bptr none (CV.int .i64 x0) 0)])] [([1000], (.obj [(.osl [0, 1000] (some 21) 0 x1)])), ([0, 1000], (.row false (some 21) x2))] K = f40c_T R_f51c k (fun u => K (f40c_out u)) x0 x1 x2 := by kernel_rfl
theorem f40c_ev {X : Type} (R_f51c : f51c_R) (hR_f51c : AnsOk Try.prog 51 (f51c_cOf R_f51c)) (k : Nat) (K : Out → Option X) (x0 : Int) (x1 : Nat) (x2 : List CV) : evFn (f40c_cx R_f51c hR_f51c) [] k Try.f40.ntmps Try.f40.results.toList (Try.f40.body.getD .skip) [(.ptr [1000] 0 0 0), (.fn 45 [(.bptr none (CV.int .i64 x0) 0)])] [([1000], (.obj [(.osl [0, 1000] (some 21) 0 x1)])), ([0, 1000], (.row false (some 21) x2))] K = f40c_A R_f51c k X (fun u => K (f40c_out u)) x0 x1 x2 := (f40c_ev' R_f51c hR_f51c k K x0 x1 x2).trans rfl
theorem f40c_okA (R_f51c : f51c_R) (hR_f51c : AnsOk Try.prog 51 (f51c_cOf R_f51c)) (k : Nat) : AnsOk Try.prog 40 (f40c_cOf (f40c_A R_f51c k)) := by
  intro X xs ns K x h
  unfold f40c_cOf at h ⊢
  split at h
  · exact ans_main S (f40c_Cok R_f51c hR_f51c) Try.func40 (ent_of Try.func40 (by kernel_rfl) rfl) rfl (fun X K => f40c_ev R_f51c hR_f51c k K _ _ _) h
  · cases h
/-- "(*outpost/watch.Table).drop" -/
def f40c {X : Type} (k : Nat) (K : Int × Nat × (List CV) → Option X) (x0 : Int) (x1 : Nat) (x2 : List CV) : Option X := f40c_A (fun X => @f51c X k) k X K x0 x1 x2
theorem f40c_ok (k : Nat) : AnsOk Try.prog 40 (f40c_cOf (fun X => @f40c X k)) := f40c_okA (fun X => @f51c X k) (f51c_ok k) k
abbrev f23_R : Type 1 := (X : Type) → (Int × Nat × (List CV) → Option X) → Int → Nat → (List CV) → Option X
def f23_out (u : Int × Nat × (List CV)) : Out := ⟨(.v (CV.int .i64 u.1)), [([1000], (.obj [(.osl [0, 1000] (some 21) 0 u.2.1)])), ([0, 1000], (.row false (some 21) u.2.2))]⟩
def f23_cOf (R : f23_R) : FnC := fun X xs ns K => match xs, ns with
  | [(.ptr [1000] 0 0 0), (.v (CV.int .i64 x0))], [([1000], (.obj [(.osl [0, 1000] (some 21) 0 x1)])), ([0, 1000], (.row false (some 21) x2))] => R X (fun u => K (f23_out u)) x0 x1 x2
  | _, _ => none
def f23_plan : Nat → Option (List Nat × List Wk)
  | 0 => some ([0, 1], [])
  | 1 => some ([0, 3], [])
  | _ => none
def f23_C (R_f40c : f40c_R) : Fns := (orC 40 (f40c_cOf R_f40c) noC)
theorem f23_Cok (R_f40c : f40c_R) (hR_f40c : AnsOk Try.prog 40 (f40c_cOf R_f40c)) : CsOk Try.prog (f23_C R_f40c) := (orC_ok hR_f40c noC_ok)
def f23_cx (R_f40c : f40c_R) (hR_f40c : AnsOk Try.prog 40 (f40c_cOf R_f40c)) : Cx := mkCx (tabOf rows) (f23_C R_f40c) md (cmpIn cmps) f23_plan (f23_Cok R_f40c hR_f40c)
def f23_T {X : Type} (R_f40c : f40c_R) (k : Nat) (K : Int × Nat × (List CV) → Option X)  (x0 : Int) (x1 : Nat) (x2 : List CV) : Option X :=
R_f40c _ (fun u1 =>
K (u1.1, u1.2.1, (List.take (0 + u1.2.1) u1.2.2))) (x0) (x1) (x2)
/-- "(*outpost/watch.Table).DropServer" -/
def f23_A (R_f40c : f40c_R) (k : Nat) : f23_R := fun X K x0 x1 x2 => f23_T R_f40c k K  x0 x1 x2
set_option maxRecDepth 100000 in
theorem f23_ev' {X : Type} (R_f40c : f40c_R) (hR_f40c : AnsOk Try.prog 40 (f40c_cOf R_f40c)) (k : Nat) (K : Out → Option X) (x0 : Int) (x1 : Nat) (x2 : List CV) : evFn (f23_cx R_f40c hR_f40c) [] k Try.f23.ntmps Try.f23.results.toList (Try.f23.body.getD .skip) [(.ptr [1000] 0 0 0), (.v (CV.int .i64 x0))] [([1000], (.obj [(.osl [0, 1000] (some 21) 0 x1)])), ([0, 1000], (.row false (some 21) x2))] K = f23_T R_f40c k (fun u => K (f23_out u)) x0 x1 x2 := by kernel_rfl
theorem f23_ev {X : Type} (R_f40c : f40c_R) (hR_f40c : AnsOk Try.prog 40 (f40c_cOf R_f40c)) (k : Nat) (K : Out → Option X) (x0 : Int) (x1 : Nat) (x2 : List CV) : evFn (f23_cx R_f40c hR_f40c) [] k Try.f23.ntmps Try.f23.results.toList (Try.f23.body.getD .skip) [(.ptr [1000] 0 0 0), (.v (CV.int .i64 x0))] [([1000], (.obj [(.osl [0, 1000] (some 21) 0 x1)])), ([0, 1000], (.row false (some 21) x2))] K = f23_A R_f40c k X (fun u => K (f23_out u)) x0 x1 x2 := (f23_ev' R_f40c hR_f40c k K x0 x1 x2).trans rfl
theorem f23_okA (R_f40c : f40c_R) (hR_f40c : AnsOk Try.prog 40 (f40c_cOf R_f40c)) (k : Nat) : AnsOk Try.prog 23 (f23_cOf (f23_A R_f40c k)) := by
  intro X xs ns K x h
  unfold f23_cOf at h ⊢
  split at h
  · exact ans_main S (f23_Cok R_f40c hR_f40c) Try.func23 (ent_of Try.func23 (by kernel_rfl) rfl) rfl (fun X K => f23_ev R_f40c hR_f40c k K _ _ _) h
  · cases h
/-- "(*outpost/watch.Table).DropServer" -/
def f23 {X : Type} (k : Nat) (K : Int × Nat × (List CV) → Option X) (x0 : Int) (x1 : Nat) (x2 : List CV) : Option X := f23_A (fun X => @f40c X k) k X K x0 x1 x2
theorem f23_ok (k : Nat) : AnsOk Try.prog 23 (f23_cOf (fun X => @f23 X k)) := f23_okA (fun X => @f40c X k) (f40c_ok k) k
abbrev f12_R : Type 1 := (X : Type) → (Bool → Option X) → Int → Int → Int → Int → Option X
def f12_out (u : Bool) : Out := ⟨(.v (CV.bool u)), []⟩
def f12_cOf (R : f12_R) : FnC := fun X xs ns K => match xs, ns with
  | [(.v (CV.int .i64 x0)), (.v (CV.int .i64 x1)), (.v (CV.int .i64 x2)), (.v (CV.int .i64 x3))], [] => R X (fun u => K (f12_out u)) x0 x1 x2 x3
  | _, _ => none
def f12_plan : Nat → Option (List Nat × List Wk)
  | 0 => some ([0, 1, 2, 3], [])
  | 1 => some ([0, 1, 2, 3], [])
  | 2 => some ([0, 1, 2, 3], [])
  | _ => none
def f12_C (R_f32 : f32_R) : Fns := (orC 32 (f32_cOf R_f32) noC)
theorem f12_Cok (R_f32 : f32_R) (hR_f32 : AnsOk Try.prog 32 (f32_cOf R_f32)) : CsOk Try.prog (f12_C R_f32) := (orC_ok hR_f32 noC_ok)
def f12_cx (R_f32 : f32_R) (hR_f32 : AnsOk Try.prog 32 (f32_cOf R_f32)) : Cx := mkCx (tabOf rows) (f12_C R_f32) md (cmpIn cmps) f12_plan (f12_Cok R_f32 hR_f32)
def f12_T {X : Type} (R_f32 : f32_R) (k : Nat) (K : Bool → Option X)  (x0 : Int) (x1 : Int) (x2 : Int) (x3 : Int) : Option X :=
(bif (decide ((bop .and .i64 x0 16777215) < (bop .and .i64 x1 16777215))) then
(bif (decide ((IntKind.wrap .i64 ((bop .and .i64 x1 16777215) - (bop .and .i64 x0 16777215))) < 8388608)) then
K (true)
else
(bif (decide ((bop .and .i64 x0 16777215) > (bop .and .i64 x1 16777215))) then
(bif (decide ((IntKind.wrap .i64 ((bop .and .i64 x0 16777215) - (bop .and .i64 x1 16777215))) > 8388608)) then
K (true)
else
R_f32 _ (fun u1 =>
R_f32 _ (fun u2 =>
K ((decide (u1 > (IntKind.wrap .i64 (u2 + 128)))))) (x2)) (x3))
else
R_f32 _ (fun u3 =>
R_f32 _ (fun u4 =>
K ((decide (u3 > (IntKind.wrap .i64 (u4 + 128)))))) (x2)) (x3)))
else
(bif (decide ((bop .and .i64 x0 16777215) > (bop .and .i64 x1 16777215))) then
(bif (decide ((IntKind.wrap .i64 ((bop .and .i64 x0 16777215) - (bop .and .i64 x1 16777215))) > 8388608)) then
K (true)
else
R_f32 _ (fun u5 =>
R_f32 _ (fun u6 =>
K ((decide (u5 > (IntKind.wrap .i64 (u6 + 128)))))) (x2)) (x3))
else
R_f32 _ (fun u7 =>
R_f32 _ (fun u8 =>
K ((decide (u7 > (IntKind.wrap .i64 (u8 + 128)))))) (x2)) (x3)))
/-- "outpost/watch.Fresh" -/
def f12_A (R_f32 : f32_R) (k : Nat) : f12_R := fun X K x0 x1 x2 x3 => f12_T R_f32 k K  x0 x1 x2 x3
set_option maxRecDepth 100000 in
theorem f12_ev' {X : Type} (R_f32 : f32_R) (hR_f32 : AnsOk Try.prog 32 (f32_cOf R_f32)) (k : Nat) (K : Out → Option X) (x0 : Int) (x1 : Int) (x2 : Int) (x3 : Int) : evFn (f12_cx R_f32 hR_f32) [] k Try.f12.ntmps Try.f12.results.toList (Try.f12.body.getD .skip) [(.v (CV.int .i64 x0)), (.v (CV.int .i64 x1)), (.v (CV.int .i64 x2)), (.v (CV.int .i64 x3))] [] K = f12_T R_f32 k (fun u => K (f12_out u)) x0 x1 x2 x3 := by kernel_rfl
theorem f12_ev {X : Type} (R_f32 : f32_R) (hR_f32 : AnsOk Try.prog 32 (f32_cOf R_f32)) (k : Nat) (K : Out → Option X) (x0 : Int) (x1 : Int) (x2 : Int) (x3 : Int) : evFn (f12_cx R_f32 hR_f32) [] k Try.f12.ntmps Try.f12.results.toList (Try.f12.body.getD .skip) [(.v (CV.int .i64 x0)), (.v (CV.int .i64 x1)), (.v (CV.int .i64 x2)), (.v (CV.int .i64 x3))] [] K = f12_A R_f32 k X (fun u => K (f12_out u)) x0 x1 x2 x3 := (f12_ev' R_f32 hR_f32 k K x0 x1 x2 x3).trans rfl
theorem f12_okA (R_f32 : f32_R) (hR_f32 : AnsOk Try.prog 32 (f32_cOf R_f32)) (k : Nat) : AnsOk Try.prog 12 (f12_cOf (f12_A R_f32 k)) := by
  intro X xs ns K x h
  unfold f12_cOf at h ⊢
  split at h
  · exact ans_main S (f12_Cok R_f32 hR_f32) Try.func12 (ent_of Try.func12 (by kernel_rfl) rfl) rfl (fun X K => f12_ev R_f32 hR_f32 k K _ _ _ _) h
  · cases h
/-- "outpost/watch.Fresh" -/
def f12 {X : Type} (k : Nat) (K : Bool → Option X) (x0 : Int) (x1 : Int) (x2 : Int) (x3 : Int) : Option X := f12_A (fun X => @f32 X k) k X K x0 x1 x2 x3
theorem f12_ok (k : Nat) : AnsOk Try.prog 12 (f12_cOf (fun X => @f12 X k)) := f12_okA (fun X => @f32 X k) (f32_ok k) k
abbrev f7_R : Type 1 := (X : Type) → (Bool → Option X) → Option X
def f7_out (u : Bool) : Out := ⟨(.v (CV.bool u)), []⟩
def f7_cOf (R : f7_R) : FnC := fun X xs ns K => match xs, ns with
  | [], [] => R X (fun u => K (f7_out u)) 
  | _, _ => none
def f7_plan : Nat → Option (List Nat × List Wk)
  | 0 => some ([], [])
  | 1 => some ([], [])
  | 2 => some ([1], [])
  | 3 => some ([1, 2], [])
  | 4 => some ([1, 2, 3], [])
  | 5 => some ([1, 2, 3, 4], [])
  | 6 => some ([1, 2, 3, 4, 5], [])
  | 7 => some ([1, 2, 3, 4, 5, 6], [])
  | 8 => some ([1, 2, 3, 4, 5, 6, 7], [])
  | 9 => some ([1, 2, 3, 4, 5, 6, 7, 8], [])
  | 10 => some ([1, 2, 3, 4, 5, 6, 7, 8, 9], [])
  | _ => none
def f7_C (R_f8 : f8_R) (R_f10 : f10_R) (R_f9 : f9_R) (R_f11 : f11_R) (R_f29 : f29_R) (R_f28 : f28_R) (R_f22 : f22_R) (R_f21 : f21_R) (R_f23 : f23_R) (R_f12 : f12_R) : Fns := (orC 8 (f8_cOf R_f8) (orC 9 (f9_cOf R_f9) (orC 10 (f10_cOf R_f10) (orC 11 (f11_cOf R_f11) (orC 12 (f12_cOf R_f12) (orC 21 (f21_cOf R_f21) (orC 22 (f22_cOf R_f22) (orC 23 (f23_cOf R_f23) (orC 28 (f28_cOf R_f28) (orC 29 (f29_cOf R_f29) noC))))))))))
theorem f7_Cok (R_f8 : f8_R) (R_f10 : f10_R) (R_f9 : f9_R) (R_f11 : f11_R) (R_f29 : f29_R) (R_f28 : f28_R) (R_f22 : f22_R) (R_f21 : f21_R) (R_f23 : f23_R) (R_f12 : f12_R) (hR_f8 : AnsOk Try.prog 8 (f8_cOf R_f8)) (hR_f10 : AnsOk Try.prog 10 (f10_cOf R_f10)) (hR_f9 : AnsOk Try.prog 9 (f9_cOf R_f9)) (hR_f11 : AnsOk Try.prog 11 (f11_cOf R_f11)) (hR_f29 : AnsOk Try.prog 29 (f29_cOf R_f29)) (hR_f28 : AnsOk Try.prog 28 (f28_cOf R_f28)) (hR_f22 : AnsOk Try.prog 22 (f22_cOf R_f22)) (hR_f21 : AnsOk Try.prog 21 (f21_cOf R_f21)) (hR_f23 : AnsOk Try.prog 23 (f23_cOf R_f23)) (hR_f12 : AnsOk Try.prog 12 (f12_cOf R_f12)) : CsOk Try.prog (f7_C R_f8 R_f10 R_f9 R_f11 R_f29 R_f28 R_f22 R_f21 R_f23 R_f12) := (orC_ok hR_f8 (orC_ok hR_f9 (orC_ok hR_f10 (orC_ok hR_f11 (orC_ok hR_f12 (orC_ok hR_f21 (orC_ok hR_f22 (orC_ok hR_f23 (orC_ok hR_f28 (orC_ok hR_f29 noC_ok))))))))))
def f7_cx (R_f8 : f8_R) (R_f10 : f10_R) (R_f9 : f9_R) (R_f11 : f11_R) (R_f29 : f29_R) (R_f28 : f28_R) (R_f22 : f22_R) (R_f21 : f21_R) (R_f23 : f23_R) (R_f12 : f12_R) (hR_f8 : AnsOk Try.prog 8 (f8_cOf R_f8)) (hR_f10 : AnsOk Try.prog 10 (f10_cOf R_f10)) (hR_f9 : AnsOk Try.prog 9 (f9_cOf R_f9)) (hR_f11 : AnsOk Try.prog 11 (f11_cOf R_f11)) (hR_f29 : AnsOk Try.prog 29 (f29_cOf R_f29)) (hR_f28 : AnsOk Try.prog 28 (f28_cOf R_f28)) (hR_f22 : AnsOk Try.prog 22 (f22_cOf R_f22)) (hR_f21 : AnsOk Try.prog 21 (f21_cOf R_f21)) (hR_f23 : AnsOk Try.prog 23 (f23_cOf R_f23)) (hR_f12 : AnsOk Try.prog 12 (f12_cOf R_f12)) : Cx := mkCx (tabOf rows) (f7_C R_f8 R_f10 R_f9 R_f11 R_f29 R_f28 R_f22 R_f21 R_f23 R_f12) md (cmpIn cmps) f7_plan (f7_Cok R_f8 R_f10 R_f9 R_f11 R_f29 R_f28 R_f22 R_f21 R_f23 R_f12 hR_f8 hR_f10 hR_f9 hR_f11 hR_f29 hR_f28 hR_f22 hR_f21 hR_f23 hR_f12)
def f7_T {X : Type} (R_f8 : f8_R) (R_f10 : f10_R) (R_f9 : f9_R) (R_f11 : f11_R) (R_f29 : f29_R) (R_f28 : f28_R) (R_f22 : f22_R) (R_f21 : f21_R) (R_f23 : f23_R) (R_f12 : f12_R) (k : Nat) (K : Bool → Option X)   : Option X :=
R_f8 _ (fun u1 =>
R_f10 _ (fun u2 =>
R_f9 _ (fun u3 =>
R_f10 _ (fun u4 =>
R_f11 _ (fun u5 =>
R_f10 _ (fun u6 =>
R_f11 _ (fun u7 =>
R_f8 _ (fun u8 =>
R_f10 _ (fun u9 =>
R_f9 _ (fun u10 =>
R_f10 _ (fun u11 =>
R_f11 _ (fun u12 =>
R_f10 _ (fun u13 =>
R_f11 _ (fun u14 =>
R_f29 _ (fun u15 =>
(bif (u3.1 == 0) then
(bif ((Nat.cast (u5.1) : Int) == 0) then
(bif ((Nat.cast (u7.1) : Int) == 1) then
grd (decide (0 < (Nat.cast (u7.1) : Int))) <|
Option.bind (u7.2.2.2)[0]? fun e16 =>
Option.bind (CV.cell e16 20) fun c17 =>
grd (CV.isI .i64 c17) <|
(bif ((CV.toI c17) == 1) then
grd (decide (0 < (Nat.cast (u7.1) : Int))) <|
Option.bind (u7.2.2.2)[0]? fun e18 =>
Option.bind (CV.cell e18 14) fun c19 =>
grd (CV.isI .i64 c19) <|
(bif ((CV.toI c19) == 2) then
(bif (u10.1 == 0) then
(bif ((Nat.cast (u12.1) : Int) == 1) then
(bif ((Nat.cast (u14.1) : Int) == 0) then
(bif ((Nat.cast (u15.1) : Int) == 1) then
grd (decide (0 < (Nat.cast (u15.1) : Int))) <|
Option.bind (u15.2.2.2)[0]? fun e20 =>
Option.bind (CV.cell e20 19) fun c21 =>
grd (CV.isI .i64 c21) <|
(bif ((CV.toI c21) == 1) then
R_f28 _ (fun u22 =>
(bif (u22.1 == 1) then
R_f22 _ (fun u23 =>
(bif (u23.1 == 1) then
R_f21 _ (fun u24 =>
(bif u24.1 then
R_f21 _ (fun u25 =>
(bif (!u25.1) then
R_f23 _ (fun u26 =>
(bif (u26.1 == 0) then
R_f12 _ (fun u27 =>
(bif u27 then
R_f12 _ (fun u28 =>
(bif (!u28) then
R_f12 _ (fun u29 =>
K (u29)) (2) (1) (0) (200)
else
K (false))) (2) (1) (0) (0)
else
K (false))) (1) (2) (0) (0)
else
K (false))) (1) (u25.2.1) (u25.2.2)
else
K (false))) (1) ((List.take 1 (List.drop 0 [(CV.int .u8 7)]))) (u24.2.1) (u24.2.2)
else
K (false))) (1) ((List.take 1 (List.drop 0 [(CV.int .u8 7)]))) (u15.2.1) (u15.2.2.1)
else
K (false))) ((List.take 1 (List.drop 0 [(CV.int .i64 3)]))) (u22.2.1) (u22.2.2)
else
K (false))) (u7.2.1) (u7.2.2.1)
else
K (false))
else
K (false))
else
K (false))
else
K (false))
else
K (false))
else
K (false))
else
K (false))
else
K (false))
else
K (false))
else
K (false))) (u14.2.1) (u14.2.2.1)) ((List.take 1 (List.drop 0 [(CV.agg [(CV.int .i64 1), (CV.int .i64 u13.1), (CV.str ⟨#[]⟩), (CV.slc none (List.take 0 (List.drop 0 u13.2))), (CV.int .i64 0), (CV.int .i64 0)])]))) (2) (u12.2.1) (u12.2.2.1)) (12)) ((List.take 1 (List.drop 0 [(CV.agg [(CV.int .i64 1), (CV.int .i64 u11.1), (CV.str ⟨#[]⟩), (CV.slc none (List.take 0 (List.drop 0 u11.2))), (CV.int .i64 0), (CV.int .i64 0)])]))) (1) (u10.2.1) (u10.2.2)) (11)) ((CV.agg [(CV.int .i64 1), (CV.slc none (List.take 1 (List.drop 0 [(CV.int .u8 7)]))), (CV.slc none []), (CV.int .i64 0), (CV.int .i64 0), (CV.bool false), (CV.bool false), (CV.int .i64 10), (CV.int .i64 0), (CV.int .i64 0), (CV.bool true), (CV.bool false), (CV.bool false), (CV.int .i64 1), (CV.int .i64 u9.1), (CV.str ⟨#[]⟩), (CV.slc none (List.take 0 (List.drop 0 u9.2))), (CV.int .i64 0), (CV.int .i64 0), (CV.int .i64 0), (CV.int .i64 0)])) (0) (u8)) (5)) ) ((List.take 1 (List.drop 0 [(CV.agg [(CV.int .i64 1), (CV.int .i64 u6.1), (CV.str ⟨#[]⟩), (CV.slc none (List.take 0 (List.drop 0 u6.2))), (CV.int .i64 0), (CV.int .i64 0)])]))) (5) (u5.2.1) (u5.2.2.1)) (2)) ((List.take 1 (List.drop 0 [(CV.agg [(CV.int .i64 1), (CV.int .i64 u4.1), (CV.str ⟨#[]⟩), (CV.slc none (List.take 0 (List.drop 0 u4.2))), (CV.int .i64 0), (CV.int .i64 0)])]))) (3) (u3.2.1) (u3.2.2)) (2)) ((CV.agg [(CV.int .i64 1), (CV.slc none []), (CV.slc none (List.take 1 (List.drop 0 [(CV.int .i64 3)]))), (CV.int .i64 5), (CV.int .i64 0), (CV.bool true), (CV.bool false), (CV.int .i64 0), (CV.int .i64 0), (CV.int .i64 0), (CV.bool false), (CV.bool false), (CV.bool false), (CV.int .i64 1), (CV.int .i64 u2.1), (CV.str ⟨#[]⟩), (CV.slc none (List.take 0 (List.drop 0 u2.2))), (CV.int .i64 0), (CV.int .i64 0), (CV.int .i64 0), (CV.int .i64 0)])) (0) (u1)) (1)) 
/-- "outpost/outpostlaw21.alive" -/
def f7_A (R_f8 : f8_R) (R_f10 : f10_R) (R_f9 : f9_R) (R_f11 : f11_R) (R_f29 : f29_R) (R_f28 : f28_R) (R_f22 : f22_R) (R_f21 : f21_R) (R_f23 : f23_R) (R_f12 : f12_R) (k : Nat) : f7_R := fun X K  => f7_T R_f8 R_f10 R_f9 R_f11 R_f29 R_f28 R_f22 R_f21 R_f23 R_f12 k K  
set_option maxRecDepth 100000 in
theorem f7_ev' {X : Type} (R_f8 : f8_R) (R_f10 : f10_R) (R_f9 : f9_R) (R_f11 : f11_R) (R_f29 : f29_R) (R_f28 : f28_R) (R_f22 : f22_R) (R_f21 : f21_R) (R_f23 : f23_R) (R_f12 : f12_R) (hR_f8 : AnsOk Try.prog 8 (f8_cOf R_f8)) (hR_f10 : AnsOk Try.prog 10 (f10_cOf R_f10)) (hR_f9 : AnsOk Try.prog 9 (f9_cOf R_f9)) (hR_f11 : AnsOk Try.prog 11 (f11_cOf R_f11)) (hR_f29 : AnsOk Try.prog 29 (f29_cOf R_f29)) (hR_f28 : AnsOk Try.prog 28 (f28_cOf R_f28)) (hR_f22 : AnsOk Try.prog 22 (f22_cOf R_f22)) (hR_f21 : AnsOk Try.prog 21 (f21_cOf R_f21)) (hR_f23 : AnsOk Try.prog 23 (f23_cOf R_f23)) (hR_f12 : AnsOk Try.prog 12 (f12_cOf R_f12)) (k : Nat) (K : Out → Option X)  : evFn (f7_cx R_f8 R_f10 R_f9 R_f11 R_f29 R_f28 R_f22 R_f21 R_f23 R_f12 hR_f8 hR_f10 hR_f9 hR_f11 hR_f29 hR_f28 hR_f22 hR_f21 hR_f23 hR_f12) [] k Try.f7.ntmps Try.f7.results.toList (Try.f7.body.getD .skip) [] [] K = f7_T R_f8 R_f10 R_f9 R_f11 R_f29 R_f28 R_f22 R_f21 R_f23 R_f12 k (fun u => K (f7_out u))  := by kernel_rfl
theorem f7_ev {X : Type} (R_f8 : f8_R) (R_f10 : f10_R) (R_f9 : f9_R) (R_f11 : f11_R) (R_f29 : f29_R) (R_f28 : f28_R) (R_f22 : f22_R) (R_f21 : f21_R) (R_f23 : f23_R) (R_f12 : f12_R) (hR_f8 : AnsOk Try.prog 8 (f8_cOf R_f8)) (hR_f10 : AnsOk Try.prog 10 (f10_cOf R_f10)) (hR_f9 : AnsOk Try.prog 9 (f9_cOf R_f9)) (hR_f11 : AnsOk Try.prog 11 (f11_cOf R_f11)) (hR_f29 : AnsOk Try.prog 29 (f29_cOf R_f29)) (hR_f28 : AnsOk Try.prog 28 (f28_cOf R_f28)) (hR_f22 : AnsOk Try.prog 22 (f22_cOf R_f22)) (hR_f21 : AnsOk Try.prog 21 (f21_cOf R_f21)) (hR_f23 : AnsOk Try.prog 23 (f23_cOf R_f23)) (hR_f12 : AnsOk Try.prog 12 (f12_cOf R_f12)) (k : Nat) (K : Out → Option X)  : evFn (f7_cx R_f8 R_f10 R_f9 R_f11 R_f29 R_f28 R_f22 R_f21 R_f23 R_f12 hR_f8 hR_f10 hR_f9 hR_f11 hR_f29 hR_f28 hR_f22 hR_f21 hR_f23 hR_f12) [] k Try.f7.ntmps Try.f7.results.toList (Try.f7.body.getD .skip) [] [] K = f7_A R_f8 R_f10 R_f9 R_f11 R_f29 R_f28 R_f22 R_f21 R_f23 R_f12 k X (fun u => K (f7_out u))  := (f7_ev' R_f8 R_f10 R_f9 R_f11 R_f29 R_f28 R_f22 R_f21 R_f23 R_f12 hR_f8 hR_f10 hR_f9 hR_f11 hR_f29 hR_f28 hR_f22 hR_f21 hR_f23 hR_f12 k K ).trans rfl
theorem f7_okA (R_f8 : f8_R) (R_f10 : f10_R) (R_f9 : f9_R) (R_f11 : f11_R) (R_f29 : f29_R) (R_f28 : f28_R) (R_f22 : f22_R) (R_f21 : f21_R) (R_f23 : f23_R) (R_f12 : f12_R) (hR_f8 : AnsOk Try.prog 8 (f8_cOf R_f8)) (hR_f10 : AnsOk Try.prog 10 (f10_cOf R_f10)) (hR_f9 : AnsOk Try.prog 9 (f9_cOf R_f9)) (hR_f11 : AnsOk Try.prog 11 (f11_cOf R_f11)) (hR_f29 : AnsOk Try.prog 29 (f29_cOf R_f29)) (hR_f28 : AnsOk Try.prog 28 (f28_cOf R_f28)) (hR_f22 : AnsOk Try.prog 22 (f22_cOf R_f22)) (hR_f21 : AnsOk Try.prog 21 (f21_cOf R_f21)) (hR_f23 : AnsOk Try.prog 23 (f23_cOf R_f23)) (hR_f12 : AnsOk Try.prog 12 (f12_cOf R_f12)) (k : Nat) : AnsOk Try.prog 7 (f7_cOf (f7_A R_f8 R_f10 R_f9 R_f11 R_f29 R_f28 R_f22 R_f21 R_f23 R_f12 k)) := by
  intro X xs ns K x h
  unfold f7_cOf at h ⊢
  split at h
  · exact ans_main S (f7_Cok R_f8 R_f10 R_f9 R_f11 R_f29 R_f28 R_f22 R_f21 R_f23 R_f12 hR_f8 hR_f10 hR_f9 hR_f11 hR_f29 hR_f28 hR_f22 hR_f21 hR_f23 hR_f12) Try.func7 (ent_of Try.func7 (by kernel_rfl) rfl) rfl (fun X K => f7_ev R_f8 R_f10 R_f9 R_f11 R_f29 R_f28 R_f22 R_f21 R_f23 R_f12 hR_f8 hR_f10 hR_f9 hR_f11 hR_f29 hR_f28 hR_f22 hR_f21 hR_f23 hR_f12 k K ) h
  · cases h
/-- "outpost/outpostlaw21.alive" -/
def f7 {X : Type} (k : Nat) (K : Bool → Option X)  : Option X := f7_A (fun X => @f8 X k) (fun X => @f10 X k) (fun X => @f9 X k) (fun X => @f11 X k) (fun X => @f29 X k) (fun X => @f28 X k) (fun X => @f22 X k) (fun X => @f21 X k) (fun X => @f23 X k) (fun X => @f12 X k) k X K 
theorem f7_ok (k : Nat) : AnsOk Try.prog 7 (f7_cOf (fun X => @f7 X k)) := f7_okA (fun X => @f8 X k) (fun X => @f10 X k) (fun X => @f9 X k) (fun X => @f11 X k) (fun X => @f29 X k) (fun X => @f28 X k) (fun X => @f22 X k) (fun X => @f21 X k) (fun X => @f23 X k) (fun X => @f12 X k) (f8_ok k) (f10_ok k) (f9_ok k) (f11_ok k) (f29_ok k) (f28_ok k) (f22_ok k) (f21_ok k) (f23_ok k) (f12_ok k) k
end Go.Proofs.YthlaobnnhghcfaaD
