/- internal/bytealg.MakeNoZero: new bytes that nobody knows. -/
import Derived.Test.YtlaojkheenobaaaDoorTO
import Derived.Laws.Externs
import Derived.Lib.MakeNoZero
namespace Go.Proofs.YtlaojkheenobaaaDoorS
open Go Go.RowKit
set_option linter.unusedVariables false
set_option linter.unusedSimpArgs false
section
variable {X : Type} {P : Program} {fr : Fr} {φ φ' : Nm → Loc} {F F' B : Nat → Prop} {s : St} {a : Act} {w w' : World}
theorem digits_num : ∀ (n t : Nat) (acc : Array Value), (∀ v ∈ acc.toList, ∃ k m, v = .int k m) → ∀ v ∈ (Extern.BytealgMakeNoZero.digits n t acc).toList, ∃ k m, v = .int k m
  | 0, _, _, h => h
  | n + 1, t, acc, h => by
    rw [Extern.BytealgMakeNoZero.digits]
    refine digits_num n (t / 256) _ (fun v hv => ?_)
    rw [Array.toList_push, List.mem_append] at hv
    rcases hv with hv | hv
    · exact h v hv
    · rw [List.mem_singleton] at hv
      exact ⟨_, _, hv⟩
theorem run_mnz (ps : Array TypeId) (t e : TypeId) (ht : P.underlying t = some (.slice e)) (n : Nat) (hn : n ≤ 281474976710656) (w : World) :
    ∃ cs : Array Value, (Extern.BytealgMakeNoZero.makeNoZero ps #[t] #[.int .i64 n]).run P w = .ok (.slice (some ⟨w.heap.size, 0, none⟩) n cs.size) (w.drew.drew.alloc (.cells cs e)) ∧ n ≤ cs.size ∧ ∀ v ∈ cs.toList, ∃ k m, v = .int k m := by
  refine ⟨Extern.BytealgMakeNoZero.digits (grownCap w n 0 e) ((Question.extern "internal/bytealg.MakeNoZero.bytes" 0).cut (w.tape (w.drawn + 1) (.extern "internal/bytealg.MakeNoZero.bytes" 0))) #[], ?_, ?_, digits_num _ _ _ (fun v hv => by simp at hv)⟩
  · have h1 : ¬ (n : Int) < 0 := by omega
    have h2 : ¬ (281474976710656 : Int) < (n : Int) := by omega
    show Sem.run P (Bind.bind (underlying t) _) w = _
    simp [run_underlying ht, h1, h2, Question.forced, newRow, Lib.size_digits, grownCap]
  · rw [Lib.size_digits]
    simpa using grownCap_ge w n 0 e
theorem mnz_fn {g : FuncId} {fn : Func} {ps : Array TypeId} {t e : TypeId} (hf : P.funcs[g]? = some fn) (hname : (fn.name == "runtime.NumGoroutine") = false) (hb : fn.body.isNone = true) (hx : Extern.findNext fn = none) (he : Extern.find fn = some (Extern.BytealgMakeNoZero.makeNoZero ps #[t])) (ht : P.underlying t = some (.slice e))
    {n : Nat} (hn : n ≤ 281474976710656) : FnOkX P g [.v (.int .i64 n)] [] ⟨.osl [2000] none 0 n, [([2000], .row false none (List.replicate n .any))]⟩ := by
  refine ⟨rfl, rfl, fun fr φ F w vs hw hFr hI => ?_⟩
  have hlen : vs.length = 1 := by have := hI.len; simpa using this.symm
  obtain ⟨v0, rfl⟩ : ∃ v, vs = [v] := List.length_eq_one_iff.1 hlen
  have hv := hI.tm 0
  have hv0 : v0 = .int .i64 n := by
    have h1 : VRel w φ F fr.B (.v (.int .i64 n)) v0 := hv
    cases h1 with | v h => cases h; rfl
  subst hv0
  obtain ⟨cs, hrun, hle, hnum⟩ := run_mnz (P := P) ps t e ht n hn w
  refine .inr ⟨_, _, by rw [run_callFunc_extern hf hname hb hx he, hrun]; rfl, _, rfl, ?_⟩
  have hstp : Stp (fun _ => False) w (w.drew.drew.alloc (.cells cs e)) := ((Stp.drew w).trans (Stp.drew w.drew) (fun _ hf _ => hf.elim)).trans (Stp.alloc w.drew.drew _) (fun _ hf _ => hf.elim)
  have hfr := hI.fresh
  have hbs : bsize (w.drew.drew.alloc (.cells cs e)) w.heap.size = cs.size := bsize_alloc w.drew.drew cs e
  have hwr : WrB none (w.drew.drew.alloc (.cells cs e)) w.heap.size := WrB.alloc w.drew.drew cs e (fun u hu => by obtain ⟨k, m, rfl⟩ := hnum u hu; rfl)
  have hrows : Rows w F none (List.replicate n CV.any) (cs.toList.take n) := by
    refine ⟨by simp [szOf]; omega, fun i x hx => ?_⟩
    obtain ⟨hi, rfl⟩ : i < n ∧ x = .any := by
      rw [List.getElem?_replicate] at hx
      split at hx
      · cases hx; exact ⟨by assumption, rfl⟩
      · cases hx
    have hi' : i < cs.toList.length := by simp; omega
    obtain ⟨k, m, hk⟩ := hnum cs.toList[i] (List.getElem_mem hi')
    refine ⟨[.int k m], ⟨rfl, rfl, fun u hu => by simp at hu; subst hu; exact .any _ rfl⟩, fun j u hu => ?_⟩
    cases j with
    | zero =>
      simp at hu
      subst hu
      rw [szOf, Nat.mul_one, Nat.add_zero, List.getElem?_take_of_lt hi, List.getElem?_eq_getElem hi', hk]
    | succ j => simp at hu
  obtain ⟨φ1, hI1, hloc, _, hφ1⟩ := hI.new (nm := [2000]) rfl (.row false none (List.replicate n CV.any)) (.at_ (some w.heap.size) (List.replicate n CV.any).length) hstp (fun k hk _ => hk.elim)
    (fun b k e => by
      cases e
      exact ⟨hfr.1, hfr.2.1, hfr.2.2.1, fun m n j _ hm _ => hfr.2.2.2 m n j hm⟩)
    (fun cs b k e => by cases e)
    (fun φ' _ hself _ => NRel.mkRow (cs := cs.toList.take n) (by decide) hself hwr (by rw [hbs]; simp [szOf]; omega) (hrows.mono (fun _ h => h) (fun k hk => hstp.block k (hI.fb k (.inl hk)) (fun h => h))) (fun j u hu => by
      rw [World.cell?_alloc_at (w := w.drew.drew) cs e w.heap.size j rfl]
      rw [← Array.getElem?_toList]
      rw [List.getElem?_take] at hu
      split at hu
      · exact hu
      · cases hu)) rfl
  refine ⟨φ1, F, hI1.tmps (VRelL.cons.2 ⟨.osl hloc (.inr (.inl ⟨w.heap.size, cs.size, rfl, by rw [Nat.zero_mul], by simp, by simp; omega, by rw [hbs, Nat.zero_add, szOf, Nat.mul_one]; exact Nat.le_refl _, by simp⟩)), VRelL.nil⟩)⟩
/-- What it answers. -/
theorem mnz_ans {g : FuncId} {fn : Func} {ps : Array TypeId} {t e : TypeId} (hf : P.funcs[g]? = some fn) (hname : (fn.name == "runtime.NumGoroutine") = false) (hb : fn.body.isNone = true) (hx : Extern.findNext fn = none) (he : Extern.find fn = some (Extern.BytealgMakeNoZero.makeNoZero ps #[t])) (ht : P.underlying t = some (.slice e))
    {X : Type} {n : Int} {K : Out → Option X} {x : X} (h : grd (decide (0 ≤ n)) (grd (decide (n ≤ 281474976710656)) (K ⟨.osl [2000] none 0 n.toNat, [([2000], .row false none (List.replicate n.toNat .any))]⟩)) = some x) :
    FnOkX P g [.v (.int .i64 n)] [] ⟨.osl [2000] none 0 n.toNat, [([2000], .row false none (List.replicate n.toNat .any))]⟩ := by
  obtain ⟨h1, h2⟩ := grd_some h
  obtain ⟨h3, _⟩ := grd_some h2
  have h1 := of_decide_eq_true h1
  have h3 := of_decide_eq_true h3
  have := mnz_fn (P := P) hf hname hb hx he ht (n := n.toNat) (by omega)
  rw [Int.toNat_of_nonneg h1] at this
  exact this
end
end Go.Proofs.YtlaojkheenobaaaDoorS
