/- Words of this session's own beside the print's: the bytes of a constant text; a row that came in, with its footprint. -/
import Derived.Test.YtibjiigiaebepaaWMore
import Derived.Test.YtibjiigiaebepaaWGuard
import Derived.Test.YtibjiigiaebepaaWFoot
import Derived.Test.YtibjiigiaebepaaWShare
import Derived.Lib.SlBytesConst
namespace Go.Proofs.YtibjiigiaebepaaX
open Go.RowKit Go.Proofs.YtibjiigiaebepaaW.PrintWords Go.Proofs.YtibjiigiaebepaaW.PrintLast Go.Proofs.YtibjiigiaebepaaW.PrintMore
set_option linter.unusedVariables false
set_option linter.unusedSimpArgs false
section
variable {P : Program} {ops : Array Oper} {rest : List Oper} {o o2 : Oper} {a : Act} {Q : Exit → Act → World → Prop}
/-- The bytes of a constant text: a row that is only read. Two operations: the row, and the conversion to its own type that marks it. -/
theorem const_lit {w0 W : World} (base e : Nat) {N : Tmp} (hgd : o.guard = none) (_hd : o.dst = some N) (t : TypeId) (ho2 : o2.op = .convert t t (.tmp N))
    (ht : P.underlying t = some (.slice e)) (he : P.underlying e = some (.int .u8)) {ys : List Int} {inner : List Value} (hin : inner = nums .u8 ys)
    (hrun : (execOp a.eval o).run P W = .ok (.value (.slice (some ⟨W.heap.size, 0, none⟩) ys.length ys.length)) (W.alloc (.cells inner.toArray e)))
    (heval : (a.put o.dst (.slice (some ⟨W.heap.size, 0, none⟩) ys.length ys.length)).eval (.tmp N) = .slice (some ⟨W.heap.size, 0, none⟩) ys.length ys.length)
    (hw2 : Region.wanted o2 (yielded ops (a.put o.dst (.slice (some ⟨W.heap.size, 0, none⟩) ys.length ys.length)).tmps) = true)
    (HB : Below base w0 W) (hbase : base ≤ W.heap.size) (hm : ys.length ≤ 9223372036854775807)
    (h : ∀ A c w1, (Kd.int .u8).C w1 A ys.length ys → ys.length ≤ c → Below W.heap.size W w1 → wpList P ops Q rest ((a.put o.dst (.slice A ys.length c)).put o2.dst (.slice A ys.length c)) w1) :
    wpList P ops Q (o :: o2 :: rest) a W := by
  refine Kd.event_run hgd hrun ?_
  have h2 : (execOp (a.put o.dst (.slice (some ⟨W.heap.size, 0, none⟩) ys.length ys.length)).eval o2).run P (W.alloc (.cells inner.toArray e)) = .ok (.value (.slice (some ⟨W.heap.size, 0, none⟩) ys.length ys.length)) (W.alloc (.cells inner.toArray e (inner.toArray.size, inner.toArray.size + 1))) := by
    have k := Lib.run_convert_bytes_const (P := P) W t e inner.toArray ys.length ys.length ht he
    simp only [execOp, ho2, heval, Sem.run_bind, k, Result.andThen_ok, Sem.run_pure]
  refine gate_guard hw2 (Kd.event_run rfl (show (execOp (a.put o.dst (.slice (some ⟨W.heap.size, 0, none⟩) ys.length ys.length)).eval { o2 with guard := none }).run P _ = _ from h2) (h _ _ _ (Kd.C_of_reads (enc := Value.int .u8) (d := (0 : Int)) ?_) (Nat.le_refl _) (below_alloc (Below.refl _ _) _)))
  refine ⟨rfl, hm, fun hp => ⟨_, rfl, fun j hj => ?_⟩⟩
  subst hin
  rw [add_plain]
  rw [World.cell?_alloc_mark]
  simp [nums, List.getD_eq_getElem?_getD, List.getElem?_eq_getElem (show j < ys.length from hj)]
/-- A row that came in, with the blocks that there were: what it leads to. -/
theorem F_of_C {α : Type} {d : Kd α} (hd : Kd.Heap d) {w : World} {A : Option Addr} {n : Nat} {xs : List α} (h : d.C w A n xs) : Kd.F d w (fun k => k < w.heap.size) A n xs :=
  fun W' hW => hd.C (fun k hk => hW k hk hk) h
end
end Go.Proofs.YtibjiigiaebepaaX
