/- What (sha.)Hex does: a walk through its code, over the contracts of strings.Builder. -/
import Derived.Test.YtlaojkheenobaaaDoorLay
import Derived.Test.YtlaojkheenobaaaDoorTR
import Derived.Test.YtlaojkheenobaaaDoorTU
import Derived.Test.YtlaojkheenobaaaDoorChecked
import Derived.WalkKit
import Derived.BigCall
import Derived.Below
namespace Go.Proofs.YtlaojkheenobaaaDoor
open Go Go.RowKit Go.Proofs Go.Proofs.YtlaojkheenobaaaDoorS
set_option linter.unusedVariables false
def dig (n : Int) : UInt8 := [48, 49, 50, 51, 52, 53, 54, 55, 56, 57, 97, 98, 99, 100, 101, 102].getD n.toNat 0
def hexL : List Int → List UInt8
  | [] => []
  | x :: l => dig (x / 16) :: dig (x % 16) :: hexL l
theorem hexL_append : ∀ (a b : List Int), hexL (a ++ b) = hexL a ++ hexL b
  | [], b => rfl
  | x :: a, b => by simp [hexL, hexL_append a b]
theorem hexL_length : ∀ a : List Int, (hexL a).length = 2 * a.length
  | [] => rfl
  | x :: a => by simp [hexL, hexL_length a]; omega
theorem dig_lit (m : Nat) (h : m < ByteArray.size ⟨#[48, 49, 50, 51, 52, 53, 54, 55, 56, 57, 97, 98, 99, 100, 101, 102]⟩) : (⟨#[48, 49, 50, 51, 52, 53, 54, 55, 56, 57, 97, 98, 99, 100, 101, 102]⟩ : ByteArray)[m] = dig m := by
  have h : m < 16 := h
  rcases m with _ | _ | _ | _ | _ | _ | _ | _ | _ | _ | _ | _ | _ | _ | _ | _ | m <;> first | rfl | omega
theorem ren29 : laysWB_ren.f 167 = 29 := by kernel_rfl
theorem wb (B b : Nat) (bs : List Value) (c : Int) (w : World) (h : Lib.IsBuilder 64 5 B b bs w) (hlen : bs.length + 1 ≤ 140737488355328) (hBw : B ≤ w.heap.size) :
    Calls Tryd.prog 29 #[.pointer (some ⟨b, 0, none⟩), .int .u8 c] w fun e w' => e = .returned .nilIface ∧ (Lib.BuilderAt 64 5 B b (.pointer (some ⟨b, 0, none⟩)) (bs ++ [.int .u8 c]) w' ∧ Below B w w') := Any.Builder_WriteByte laysWB extraWB B b bs c w h hlen hBw
theorem st (B b : Nat) (l : List UInt8) (w : World) (h : Lib.IsBuilder 64 5 B b (Lib.byteCells l) w) (hBw : B ≤ w.heap.size) :
    Calls Tryd.prog 30 #[.pointer (some ⟨b, 0, none⟩)] w fun e w' => e = .returned (.string ⟨l.toArray⟩) ∧ Below B w w' := Any.Builder_String_any laysSt extraSt B b l w h hBw
set_option maxHeartbeats 4000000 in
set_option maxRecDepth 1000000 in
theorem hex_walk (vs : Array Value) (xs : List Int) (hs : vs.size = 32) (hl : xs.length = 32) (hv : ∀ i, i < 32 → vs[i]? = some (.int .u8 (xs.getD i 0))) (hx : ∀ i, i < 32 → 0 ≤ xs.getD i 0 ∧ xs.getD i 0 < 256) (w : World) :
    Calls Tryd.prog 20 #[.agg vs] w fun e w' => e = .returned (.string ⟨(hexL xs).toArray⟩) ∧ Below w.heap.size w w' := by
  go_enter Tryd.func20, Tryd.ntmps20
  refine wp_seq (wp_region ?_)
  show wpOps Tryd.prog _ _ [0, 1] _ _
  refine wpOps_step rfl rfl (v := .pointer (some ⟨w.heap.size, 0, none⟩)) (w' := w.alloc (.cells vs 25)) (by simp [execOp, Instr.box, newVar, newRow, Value.cells]; rfl) ?_
  refine wpOps_step rfl rfl (v := .string ⟨#[]⟩) (w' := w.alloc (.cells vs 25)) (by simp [execOp]; rfl) ?_
  refine wp_seq (wp_region ?_)
  show wpOps Tryd.prog _ _ [0] _ _
  refine wpOps_step rfl rfl (v := .pointer (some ⟨w.heap.size + 1, 0, none⟩)) (w' := (w.alloc (.cells vs 25)).alloc (.cells #[.pointer none, .slice none 0 0] 64)) (by simp [execOp, Instr.alloc, newVar, newRow, Tryd.zeroValue64, Value.cells]) ?_
  generalize hW : (w.alloc (.cells vs 25)).alloc (.cells #[.pointer none, .slice none 0 0] 64) = W
  have hld : (loadVar 25 ⟨w.heap.size, 0, none⟩).run Tryd.prog W = .ok (.agg vs) W := by
    have h0 : W.heap[w.heap.size]? = some (.cells vs 25 (0, 0)) := by
      rw [← hW]
      show ((w.heap.push _).push _)[w.heap.size]? = _
      rw [Array.getElem?_push_lt (by simp), Array.getElem_push_eq]
    have hc : ∀ (i : Nat) u, vs.toList[i]? = some u → W.cell? ⟨w.heap.size, 0 + i, none⟩ = some u := fun i u hu => by
      rw [Lib.cell_of_heap h0, Nat.zero_add]
      simpa using hu
    have := run_loadVar_cells (P := Tryd.prog) (w := W) (t := 25) (b := w.heap.size) (o := 0) (us := vs.toList) Tryd.isAgg25 (fun w => by rw [Array.length_toList, hs]; exact Tryd.sizeOf25 w) hc
    simpa using this
  refine wp_seq (wp_seq (wp_region ?_))
  show wpOps Tryd.prog _ _ [0, 1] _ _
  have hld2 : (Instr.loadAt 25 (.pointer (some ⟨w.heap.size, 0, none⟩))).run Tryd.prog W = .ok (.agg vs) W := by
    simp only [Instr.loadAt, Instr.sureAddr, Sem.run_bind, Sem.run_pure, Result.andThen_ok]
    exact hld
  refine wpOps_step rfl rfl (v := .agg vs) (w' := W) (by
    show (execOp _ ⟨some 6, .load 25 (.tmp 1), 25, _, _, none⟩).run _ _ = _
    simp only [execOp]
    show Sem.run Tryd.prog (do let v ← Instr.loadAt 25 (Value.pointer (some ⟨w.heap.size, 0, none⟩)); pure (Next.value v)) W = _
    simp only [Sem.run_bind, hld2, Result.andThen_ok, Sem.run_pure]) ?_
  refine wpOps_step rfl rfl (v := .int .i64 0) (w' := W) (by simp [execOp]; rfl) ?_
  show Code.wp Tryd.prog _ _ ({ tmps := #[.agg vs, .pointer (some ⟨w.heap.size, 0, none⟩), .string ⟨#[]⟩, .pointer (some ⟨w.heap.size + 1, 0, none⟩), undef, undef, .agg vs, .int .i64 0, undef, undef, undef, undef, undef, undef, undef, undef, undef, undef, undef, undef], defers := [] } : Act) W
  go_wp2
  go_loopw [7] (fun v wr => ∃ k : Nat, k ≤ 32 ∧ v = .int .i64 k ∧ Lib.IsBuilder 64 5 (w.heap.size + 1) (w.heap.size + 1) (Lib.byteCells (hexL (xs.take k))) wr ∧ Below w.heap.size w wr ∧ w.heap.size + 1 ≤ wr.heap.size) (fun v _ => 32 - (Lib.intOf v).toNat)
  case atStart =>
    refine ⟨0, by omega, rfl, ?_, ?_, ?_⟩
    · have := Lib.fresh_isBuilder 64 5 (w.alloc (.cells vs 25))
      rw [hW] at this
      simpa [hexL, Lib.byteCells] using this
    · rw [← hW]; exact ((Below.refl _ w).alloc (Nat.le_refl _) _).alloc (by simp) _
    · rw [← hW]; simp
  case round =>
    obtain ⟨k, hk, rfl, hI, hbw, hsz⟩ := hrel
    by_cases hlt : k < 32
    · have hix : (Instr.index 25 (.agg vs) (.int .i64 (k : Int))).run Tryd.prog wr = .ok (.int .u8 (xs.getD k 0)) wr := by
        have h1 := hv k hlt
        unfold Instr.index
        simp only [Sem.run_bind, run_underlying Tryd.underlying25, Result.andThen_ok, Sem.run_pure, asIntOf]
        rw [if_pos (by omega)]
        simp only [Sem.run_bind, Tryd.sizeOf5, Result.andThen_ok, part, Tryd.isAgg5, Bool.false_eq_true, if_false, Int.toNat_natCast, Nat.mul_one, h1, Sem.run_pure]
      obtain ⟨hx0, hx1⟩ := hx k hlt
      generalize hxe : xs.getD k 0 = x at *
      have hlk : (k : Int) < 32 := by omega
      have hd1 : 0 ≤ x / 16 ∧ x / 16 < 16 := by omega
      have hlen : (Lib.byteCells (hexL (xs.take k))).length = 2 * k := by rw [Lib.byteCells_length, hexL_length, List.length_take]; omega
      go_wp2_with (go_at_call 29; refine (wb (w.heap.size + 1) (w.heap.size + 1) _ _ wr hI (by omega) hsz).mono ?_)
      rintro e W1 ⟨rfl, h1, b1⟩
      have hs1 : w.heap.size + 1 ≤ W1.heap.size := Nat.le_trans hsz b1.size
      go_wp2_with (go_at_call 29; refine (wb (w.heap.size + 1) (w.heap.size + 1) _ _ W1 (Or.inr h1) (by rw [List.length_append, hlen]; simp; omega) hs1).mono ?_)
      rintro e W2 ⟨rfl, h2, b2⟩
      have hs2 : w.heap.size + 1 ≤ W2.heap.size := Nat.le_trans hs1 b2.size
      go_wp2
      go_roundw
      case rel =>
        refine ⟨k + 1, by omega, by go_num, ?_, hbw.trans ((b1.trans b2).mono (by omega)), hs2⟩
        have ht : xs.take (k + 1) = xs.take k ++ [x] := by
          rw [List.take_add_one]
          congr 1
          rw [List.getD_eq_getElem?_getD] at hxe
          cases e : xs[k]? with
          | none => rw [List.getElem?_eq_none_iff] at e; omega
          | some y => rw [e] at hxe; simp at hxe; rw [hxe]; rfl
        refine Or.inr ?_
        rw [ht, hexL_append, Lib.byteCells_append]
        have e1 : hexL [x] = [dig (x / 16), dig (x % 16)] := rfl
        rw [e1]
        have g1 := dig_lit (x / 16).toNat (by show _ < 16; omega)
        have g2 := dig_lit (x % 16).toNat (by show _ < 16; omega)
        have q1 : (((x / 16).toNat : Nat) : Int) = x / 16 := by omega
        have q2 : (((x % 16).toNat : Nat) : Int) = x % 16 := by omega
        rw [q1] at g1
        rw [q2] at g2
        rw [g1, g2, List.append_assoc] at h2
        exact h2
      case measure =>
        simp [Lib.intOf]
        omega
    · have hk32 : k = 32 := by omega
      subst hk32
      have htk : xs.take 32 = xs := List.take_of_length_le (by omega)
      go_wp2_with (go_at_call 30; refine (st (w.heap.size + 1) (w.heap.size + 1) _ wr hI hsz).mono ?_)
      rintro e W1 ⟨rfl, b1⟩
      go_wp2
      go_ret
      exact ⟨rfl, hbw.trans (b1.mono (by omega))⟩
/-- Thirty-two bytes. -/
def okHex (cs : List CV) : Bool := numsAre .u8 32 cs && (intsOf cs).all fun n => decide (0 ≤ n) && decide (n < 256)
def hexT (cs : List CV) : ByteArray := ⟨(hexL (intsOf cs)).toArray⟩
theorem hex_fn (cs : List CV) (h : okHex cs = true) : FnOk Tryd.prog 20 [.v (.agg cs)] [] ⟨.v (.str (hexT cs)), []⟩ := by
  unfold okHex at h
  rw [Bool.and_eq_true, List.all_eq_true] at h
  obtain ⟨h1, h2⟩ := h
  unfold numsAre at h1
  rw [Bool.and_eq_true] at h1
  have hcl := Nat.eq_of_beq_eq_true h1.1
  refine ⟨rfl, rfl, fun fr φ F w vs hw hFr hI => ?_⟩
  have hlen : vs.length = 1 := by have := hI.len; simpa using this.symm
  obtain ⟨v0, rfl⟩ : ∃ v0, vs = [v0] := by
    match vs, hlen with
    | [a], _ => exact ⟨a, rfl⟩
  have hr : CRel w F (.agg cs) v0 := by
    have h1 : VRel w φ F fr.B (.v (.agg cs)) v0 := hI.tm 0
    cases h1 with | v h => exact h
  obtain ⟨us, rfl⟩ := hr.agg_val
  have hus := ints_vals h1.2 hr
  have hil : (intsOf cs).length = 32 := by simp [intsOf, hcl]
  have hw1 := hex_walk us.toArray (intsOf cs) (by rw [hus]; simp [hil]) hil (fun i hi => by
    rw [hus]
    simp [List.getD_eq_getElem?_getD, List.getElem?_eq_getElem (show i < (intsOf cs).length by omega)]) (fun i hi => by
    have hm := h2 ((intsOf cs)[i]'(by omega)) (List.getElem_mem _)
    rw [Bool.and_eq_true] at hm
    simp only [List.getD_eq_getElem?_getD, List.getElem?_eq_getElem (show i < (intsOf cs).length by omega), Option.getD_some]
    exact ⟨of_decide_eq_true hm.1, of_decide_eq_true hm.2⟩) w
  refine hw1.mono fun e w' ⟨he, hb⟩ => ⟨_, he, φ, F, ?_⟩
  exact (hI.world (Below.stp hb)).tmps (VRelL.cons.2 ⟨.v (.str (hexT cs)), VRelL.nil⟩)
end Go.Proofs.YtlaojkheenobaaaDoor
