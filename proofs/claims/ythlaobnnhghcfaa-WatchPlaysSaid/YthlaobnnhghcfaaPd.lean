/- Watches, in plain words: what is due. -/
import Derived.Test.YthlaobnnhghcfaaPc
namespace Go.Proofs.YthlaobnnhghcfaaD
open Go Go.Proofs.YthlaobnnhghcfaaS Go.Proofs
set_option linter.unusedVariables false
set_option linter.unusedSimpArgs false
section
variable {X : Type}
/-- A watch that is told. -/
def W.told (now : Int) (w : W) (v : Vl) : W := { w with v := v, at_ := now, seq := (w.seq + 1) % 16777216 }
theorem W.told_ok {w : W} {v : Vl} {now : Int} (h : w.ok) (hv : v.ok) (h0 : 0 ≤ now) (h1 : now ≤ 1099511627776) : (w.told now v).ok :=
  ⟨h.tok, h.tokl, h.pathl, hv, h0, h1, by simp only [W.told]; omega, by simp only [W.told]; omega⟩
/-- The watches behind a time, and those that are told, up to a place. -/
def passN (now : Int) (ws : List W) (vs : List Vl) : Nat → List W × List W
  | 0 => ([], [])
  | i + 1 => match ws[i]? with
    | none => passN now ws vs i
    | some w => bif w.due ((vs[i]?).getD w.v) now then ((passN now ws vs i).1 ++ [w.told now ((vs[i]?).getD w.v)], (passN now ws vs i).2 ++ [w.told now ((vs[i]?).getD w.v)]) else ((passN now ws vs i).1 ++ [w], (passN now ws vs i).2)
theorem passN_len (now : Int) (ws : List W) (vs : List Vl) : ∀ i, i ≤ ws.length → (passN now ws vs i).1.length = i
  | 0, _ => rfl
  | i + 1, h => by
    unfold passN
    rw [List.getElem?_eq_getElem h]
    simp only
    cases (ws[i].due ((vs[i]?).getD ws[i].v) now) <;> simp [passN_len now ws vs i (by omega)]
theorem passN_le (now : Int) (ws : List W) (vs : List Vl) : ∀ i, (passN now ws vs i).2.length ≤ i
  | 0 => Nat.le_refl _
  | i + 1 => by
    unfold passN
    have := passN_le now ws vs i
    split
    · omega
    · rename_i w e
      cases (w.due ((vs[i]?).getD w.v) now) <;> simp <;> omega
theorem passN_ok (now : Int) {ws : List W} {vs : List Vl} (hw : Ws ws) (hv : ∀ v ∈ vs, v.ok) (h0 : 0 ≤ now) (h1 : now ≤ 1099511627776) : ∀ i, Ws (passN now ws vs i).1 ∧ Ws (passN now ws vs i).2
  | 0 => ⟨fun w h => by simp [passN] at h, fun w h => by simp [passN] at h⟩
  | i + 1 => by
    unfold passN
    obtain ⟨ih1, ih2⟩ := passN_ok now hw hv h0 h1 i
    split
    · exact ⟨ih1, ih2⟩
    · rename_i w e
      have hwo := hw w (List.mem_of_getElem? e)
      have hvo : ((vs[i]?).getD w.v).ok := by
        cases ev : vs[i]? with
        | none => exact hwo.v
        | some v => exact hv v (List.mem_of_getElem? ev)
      have ht := W.told_ok hwo hvo h0 h1
      cases (w.due ((vs[i]?).getD w.v) now)
      · exact ⟨fun x hx => (List.mem_append.1 hx).elim (ih1 x) fun h => by rw [List.mem_singleton.1 h]; exact hwo, ih2⟩
      · exact ⟨fun x hx => (List.mem_append.1 hx).elim (ih1 x) fun h => by rw [List.mem_singleton.1 h]; exact ht, fun x hx => (List.mem_append.1 hx).elim (ih2 x) fun h => by rw [List.mem_singleton.1 h]; exact ht⟩
theorem setRun_v (w : W) (v : Vl) (K : CV → Option X) : setRun w.cv 13 6 [.int .i64 v.kind, .int .i64 v.n, .str v.s, .slc none (by8 v.b), .int .i64 v.obj, .int .i64 v.inst] K = K ({ w with v := v } : W).cv := rfl
theorem setCell_at (w : W) (a : Int) (K : CV → Option X) : setCell w.cv 19 (.int .i64 a) K = K ({ w with at_ := a } : W).cv := rfl
theorem setCell_seq (w : W) (a : Int) (K : CV → Option X) : setCell w.cv 20 (.int .i64 a) K = K ({ w with seq := a } : W).cv := rfl
theorem setCell_b (w : W) (b : List Int) (K : CV → Option X) : setCell w.cv 16 (.slc none (by8 b)) K = K ({ w with v := { w.v with b := b } } : W).cv := rfl
theorem cell_seq (w : W) : CV.cell w.cv 20 = some (.int .i64 w.seq) := rfl
theorem part_v (w : W) : CV.part w.cv 13 6 = some w.v.cv := rfl
theorem set_get_self {row : List CV} {i : Nat} {x : CV} (h : i < row.length) : (row.set i x)[i]? = some x := by rw [List.getElem?_set_self h]
abbrev DSt := (List CV) × Int × Nat × Int × Int × (List CV) × Nat × (List CV)
set_option maxRecDepth 100000 in
theorem dueJ2_eq {k : Nat} (K : Nat × Nat × List CV × List CV → Option X) (rec1 : DSt → Option X) (vals orow row : List CV) (now : Int) (on n i : Nat) (w : W) (v : Vl) (hi : i < row.length) (hr : row[i]? = some w.cv) (hw : w.ok) (hv : v.ok) (h0 : 0 ≤ now) (h1 : now ≤ 1099511627776) (hon : orow.length = on) (hon2 : on < 1000) (hlt : i < 1000) (N : Int) :
    f11_J2 (fun X => @f32 X k) (fun X => @f34 X k) (fun X => @f35 X k) (fun X => @f31 X k) k K rec1 (vals, now, on, N, (i : Int), orow, n, row) (v.kind, v.n, v.s, by8 v.b, v.obj, v.inst) =
      bif w.due v now then rec1 (vals, now, on + 1, N, ((i + 1 : Nat) : Int), orow ++ [(w.told now v).cv], n, row.set i (w.told now v).cv) else rec1 (vals, now, on, N, ((i + 1 : Nat) : Int), orow, n, row) := by
  unfold f11_J2 f11_J1
  simp only [Int.toNat_natCast, Nat.zero_add, hr, Option.bind_some]
  refine (due_eq _ w v now hw hv h0 h1).trans ?_
  cases w.due v now with
  | false =>
    simp only [Bool.not_false, cond_true, cond_false]
    rw [wrap64_succ (by omega)]
  | true =>
    simp only [Bool.not_true, cond_true, cond_false, cell_seq, Option.bind_some, isI_int, toI_int, grd_true]
    refine (setRun_v w v _).trans ?_
    simp only [set_get_self hi, Option.bind_some]
    refine (setCell_at _ now _).trans ?_
    rw [set_get_self (by rw [List.length_set]; exact hi), Option.bind_some]
    refine (setCell_seq _ _ _).trans ?_
    refine (clone_eq _ _ (by rw [by8_length]; exact hv.len)).trans ?_
    rw [set_get_self (by simp only [List.length_set]; exact hi)]
    simp only [Option.bind_some, by8_length, take8]
    refine (setCell_b _ v.b _).trans ?_
    rw [set_get_self (by simp only [List.length_set]; exact hi)]
    have hs : Int.tmod (IntKind.wrap .i64 (w.seq + 1)) 16777216 = (w.seq + 1) % 16777216 := by
      have := hw.seq0
      have := hw.seq1
      rw [wrap64 (by omega) (by omega), tmod_eq (by omega)]
    rw [hs]
    simp only [Option.bind_some]
    refine (copied_eq _ (w.told now v) hw.tokl hw.pathl hv.len).trans ?_
    have e2 : tupCV (w.told now v).tup (w.told now v).at_ (w.told now v).seq = (w.told now v).cv := tupCV_eq _ _ _
    refine (show _ = grd (decide ((on + 1) * 200 ≤ 140737488355328)) (rec1 (vals, now, on + 1, N, IntKind.wrap .i64 ((i : Int) + 1), List.take on orow ++ [tupCV (w.told now v).tup (w.told now v).at_ (w.told now v).seq], n, (((row.set i _).set i _).set i _).set i (w.told now v).cv)) from rfl).trans ?_
    rw [e2, grdT (decide_eq_true (by omega)), wrap64_succ (by omega), take_all _ _ (by omega)]
    simp only [List.set_set]
theorem mapvGet (vs : List Vl) (i : Nat) : (vs.map Vl.cv)[i]? = (vs[i]?).map Vl.cv := by rw [List.getElem?_map]
set_option maxRecDepth 100000 in
theorem dueAll_eq {k : Nat} (K : Nat × Nat × List CV × List CV → Option X) (ws : List W) (vs : List Vl) (t : Int) (hw : Ws ws) (hv : ∀ v ∈ vs, v.ok) (hl : ws.length < 1000) (hk : ws.length < k) :
    f11 k K (vs.map Vl.cv) t ws.length (ws.map W.cv) = K ((passN (ck t) ws vs ws.length).2.length, ws.length, (passN (ck t) ws vs ws.length).1.map W.cv, (passN (ck t) ws vs ws.length).2.map W.cv) := by
  obtain ⟨t0, t1⟩ := ck_b t
  unfold f11 f11_A f11_T
  refine (clock_eq _ t).trans ?_
  generalize ck t = now at t0 t1
  refine (iterV_spec (T := f11_L1 (fun X => @f32 X k) (fun X => @f34 X k) (fun X => @f35 X k) (fun X => @f31 X k) k K)
    (fun i => (vs.map Vl.cv, now, (passN now ws vs i).2.length, (ws.length : Int), (i : Int), (passN now ws vs i).2.map W.cv, ws.length, ((passN now ws vs i).1 ++ ws.drop i).map W.cv))
    (fun _ => K ((passN now ws vs ws.length).2.length, ws.length, (passN now ws vs ws.length).1.map W.cv, (passN now ws vs ws.length).2.map W.cv)) ws.length (fun i rec hi hr => ?_) (fun rec => ?_) k 0 (Nat.zero_le _) (by omega))
  · have hln := passN_len now ws vs i (by omega)
    have hle := passN_le now ws vs i
    have hrow : (((passN now ws vs i).1 ++ ws.drop i).map W.cv)[i]? = some ws[i].cv := by
      rw [List.getElem?_map, List.getElem?_append_right (by omega), hln, Nat.sub_self, List.getElem?_drop, Nat.add_zero, List.getElem?_eq_getElem hi]; rfl
    have hin : i < (((passN now ws vs i).1 ++ ws.drop i).map W.cv).length := by
      rw [List.length_map, List.length_append, List.length_drop]; omega
    have hwo := hw _ (List.getElem_mem hi)
    have hvo : ((vs[i]?).getD ws[i].v).ok := by
      cases ev : vs[i]? with
      | none => exact hwo.v
      | some v => exact hv v (List.mem_of_getElem? ev)
    have fin : (bif ws[i].due ((vs[i]?).getD ws[i].v) now then rec (vs.map Vl.cv, now, (passN now ws vs i).2.length + 1, (ws.length : Int), ((i + 1 : Nat) : Int), (passN now ws vs i).2.map W.cv ++ [(ws[i].told now ((vs[i]?).getD ws[i].v)).cv], ws.length, (((passN now ws vs i).1 ++ ws.drop i).map W.cv).set i (ws[i].told now ((vs[i]?).getD ws[i].v)).cv)
        else rec (vs.map Vl.cv, now, (passN now ws vs i).2.length, (ws.length : Int), ((i + 1 : Nat) : Int), (passN now ws vs i).2.map W.cv, ws.length, ((passN now ws vs i).1 ++ ws.drop i).map W.cv)) = K ((passN now ws vs ws.length).2.length, ws.length, (passN now ws vs ws.length).1.map W.cv, (passN now ws vs ws.length).2.map W.cv) := by
      rw [← hr]
      have ep : passN now ws vs (i + 1) = (bif ws[i].due ((vs[i]?).getD ws[i].v) now then ((passN now ws vs i).1 ++ [ws[i].told now ((vs[i]?).getD ws[i].v)], (passN now ws vs i).2 ++ [ws[i].told now ((vs[i]?).getD ws[i].v)]) else ((passN now ws vs i).1 ++ [ws[i]], (passN now ws vs i).2)) := by
        conv => lhs; unfold passN
        rw [List.getElem?_eq_getElem hi]
      have ed : ws.drop i = ws[i] :: ws.drop (i + 1) := List.drop_eq_getElem_cons hi
      rw [ep]
      cases ws[i].due ((vs[i]?).getD ws[i].v) now with
      | true =>
        simp only [cond_true, List.length_append, List.length_singleton, List.map_append, List.map_cons, List.map_nil]
        rw [ed]
        simp only [List.map_append, List.map_cons]
        rw [List.set_append_right _ _ (by rw [List.length_map]; omega), List.length_map, hln, Nat.sub_self]
        simp only [List.set_cons_zero, List.append_assoc, List.singleton_append]
      | false =>
        simp only [cond_false, List.map_append, List.map_cons, List.map_nil, List.append_assoc, List.singleton_append]
        rw [ed]
        simp only [List.map_cons]
    unfold f11_L1 f11_T1
    simp only [decLt, hi, decide_true, cond_true, dec0, grd_true, Int.toNat_natCast, Nat.zero_add, hrow, Option.bind_some, part_v]
    refine (show _ = (bif decide (i < (vs.map Vl.cv).length) then Option.bind (vs.map Vl.cv)[i]? (fun e => grd (CV.isA 6 e) <| grd (CV.isI .i64 (CV.cellD 0 e)) <| grd (CV.isI .i64 (CV.cellD 1 e)) <| grd (CV.isS (CV.cellD 2 e)) <| grd (CV.isL none (CV.cellD 3 e)) <| grd (CV.isI .i64 (CV.cellD 4 e)) <| grd (CV.isI .i64 (CV.cellD 5 e)) <|
        f11_J2 (fun X => @f32 X k) (fun X => @f34 X k) (fun X => @f35 X k) (fun X => @f31 X k) k K rec (vs.map Vl.cv, now, (passN now ws vs i).2.length, (ws.length : Int), (i : Int), (passN now ws vs i).2.map W.cv, ws.length, ((passN now ws vs i).1 ++ ws.drop i).map W.cv) (CV.toI (CV.cellD 0 e), CV.toI (CV.cellD 1 e), CV.toS (CV.cellD 2 e), CV.toL (CV.cellD 3 e), CV.toI (CV.cellD 4 e), CV.toI (CV.cellD 5 e)))
      else f11_J2 (fun X => @f32 X k) (fun X => @f34 X k) (fun X => @f35 X k) (fun X => @f31 X k) k K rec (vs.map Vl.cv, now, (passN now ws vs i).2.length, (ws.length : Int), (i : Int), (passN now ws vs i).2.map W.cv, ws.length, ((passN now ws vs i).1 ++ ws.drop i).map W.cv) (ws[i].v.kind, ws[i].v.n, ws[i].v.s, by8 ws[i].v.b, ws[i].v.obj, ws[i].v.inst)) from rfl).trans ?_
    rw [List.length_map]
    cases ev : vs[i]? with
    | none =>
      have : ¬ i < vs.length := fun h => by rw [List.getElem?_eq_getElem h] at ev; cases ev
      rw [bifF (decide_eq_false this)]
      rw [ev] at hvo fin
      exact (dueJ2_eq K rec _ _ _ now _ _ i ws[i] ws[i].v hin hrow hwo hvo t0 t1 (List.length_map ..) (by omega) (by omega) _).trans fin
    | some v =>
      have : i < vs.length := (List.getElem?_eq_some_iff.1 ev).1
      rw [bifT (decide_eq_true this), mapvGet, ev]
      rw [ev] at hvo fin
      exact (dueJ2_eq K rec _ _ _ now _ _ i ws[i] v hin hrow hwo hvo t0 t1 (List.length_map ..) (by omega) (by omega) _).trans fin
  · unfold f11_L1 f11_T1
    simp only [decLt, Nat.lt_irrefl, decide_false, cond_false]
    have hln := passN_len now ws vs ws.length (Nat.le_refl _)
    simp only [List.drop_length, List.append_nil, Nat.zero_add]
    rw [take_all (List.map W.cv (passN now ws vs ws.length).1) _ (by rw [List.length_map]; omega), take_all (List.map W.cv (passN now ws vs ws.length).2) _ (by rw [List.length_map]; omega)]
end
end Go.Proofs.YthlaobnnhghcfaaD
