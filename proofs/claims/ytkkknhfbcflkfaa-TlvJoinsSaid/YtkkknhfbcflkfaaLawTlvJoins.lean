/- The row of TlvJoins: whatever comes in, the Go function answers true: by the printed functions, which the kernel has held against the program's code, and a plain law of these. -/
import Derived.Test.YtkkknhfbcflkfaaRows
import Derived.Test.YtkkknhfbcflkfaaTP
import Derived.Test.YtkkknhfbcflkfaaPk
import Derived.WalkKit
import Derived.ProofKit
import Derived.OpenShut
import Derived.ShutString
import Derived.ChangeOld
import Derived.Below
import Derived.SizedLaws
namespace Go.Proofs.Ytkkknhfbcflkfaa.tlvJoins
open Go.ChangeShapes Go.WideShapes Go.ChangeAt Go.RowKit
open Go.ChangeMaps (open_string shut_string)
open Go Go.Proofs.YtkkknhfbcflkfaaS Go.Proofs.YtkkknhfbcflkfaaD Go.Proofs
set_option linter.unusedVariables false
theorem own : ownKnob Try.prog.godebug = none := by kernel_rfl
theorem laidOut : laidOutB Try.prog = true := by kernel_rfl
theorem rdEl39 (n : Nat) (h : ∀ m, m < n → RdC Try.prog m 22 (fun ts : TS => .slc (some 4) ts.row) (fun ts => ts.len ≤ maxLen ∧ ts.wf)) : RdC Try.prog n 39 (fun a : Int × Int × List Int × TS × Unit => .agg [.int .i64 a.1, .int .i64 a.2.1, .slc none (a.2.2.1.map fun y => .int .u8 y), .slc (some 4) a.2.2.2.1.row]) (fun a => (Lit.int .i64 a.1).wf = true ∧ (Lit.int .i64 a.2.1).wf = true ∧ (a.2.2.1.length ≤ maxLen ∧ ∀ y ∈ a.2.2.1, (Lit.int .u8 y).wf = true) ∧ (a.2.2.2.1.len ≤ maxLen ∧ a.2.2.2.1.wf) ∧ True) := by
  cases n with
  | zero =>
    intro H enc w fuel cs x hf hx
    obtain ⟨xs, m, rfl, _⟩ := DataW.trod_struct Try.underlying39 hx
    omega
  | succ m =>
    have hm := h m (Nat.lt_succ_self m)
    exact RdC.struct (fs := [(3, 0), (3, 1), (25, 2), (22, 3)]) (by kernel_rfl) (by kernel_rfl) (RdF.cons (RdC.int Try.underlying3) (by kernel_rfl) (fun _ => rfl) (RdF.cons (RdC.int Try.underlying3) (by kernel_rfl) (fun _ => rfl) (RdF.cons ((RdC.slice none Try.underlying25 (by kernel_rfl) (by decide) (by intro _; rfl) (RdC.int Try.underlying5)).mono (Nat.le_succ _)) (by kernel_rfl) (fun _ => rfl) (RdF.cons (hm : RdC Try.prog m 22 (fun ts : TS => .slc (some 4) ts.row) (fun ts => ts.len ≤ maxLen ∧ ts.wf)) (by kernel_rfl) (fun _ => rfl) RdF.nil))))
theorem rdRec22 : ∀ n, RdC Try.prog n 22 (fun ts : TS => .slc (some 4) ts.row) (fun ts => ts.len ≤ maxLen ∧ ts.wf) := by
  intro n
  induction n using Nat.strongRecOn with
  | ind n ih =>
    cases n with
    | zero =>
      intro H enc w fuel cs x hf hx
      rcases DataW.trod_slice Try.underlying22 hx with ⟨rfl, _⟩ | ⟨a, len, cap, elems, rest, m, rfl, rfl, _⟩
      · exact ⟨.nil, .inl ⟨rfl, _, rfl, .slc0 _ _ _⟩, Nat.zero_le _, trivial⟩
      · omega
    | succ n =>
      refine (RdC.slice (some 4) Try.underlying22 (by kernel_rfl) (by decide) (by intro _; exact ⟨rfl, rfl⟩) (rdEl39 n (fun m hm => ih m (by omega)))).iso (fun l hl => ⟨TS.ofL l, ?_, ?_, ofL_wf l hl.2⟩)
      · rw [ofL_row]
      · rw [ofL_len]; exact hl.1
set_option maxRecDepth 100000 in
theorem lifted (os : Os) (started : os.Started) (H : Type) (enc : TypeId × Value → H) :
    ReturnsInHanded {} Try.checked os 8 .any (Rows.tlvJoinsSpec.pre6 enc Try.prog Try.f8 Rows.tlvJoinsRow.domain false) (Rows.tlvJoinsSpec.post enc Try.prog Try.f8 false true false false) := by
  refine returnsInHanded_of_change_sized (C := Try.checked) own started (by kernel_rfl) Try.func8
    (ChangeSpec.witness6 (enc := enc) (C := Try.checked) false ⟨#[], #[.slice none 0 0, .slice none 0 0], []⟩ 8 (by kernel_rfl) (by kernel_rfl) (by kernel_rfl) (by kernel_rfl)) ?_
  intro W base args ds gs before hval0 hW hcnd hsz0 _
  have hval : ∀ (j : Nat) t v, Try.f8.params[j]? = some t → args[j]? = some v → Value.okWide Try.prog W .any base t v := hval0
  have hW' := hW
  obtain ⟨p, q, hA0, hV, rfl, hfz, hnd⟩ := hW
  have hA : DataW.TrodAll enc Try.prog W 0 (fun _ => true) true Try.f8.params.toList args.toList ds p := hA0
  rw [Try.params8] at hA hval
  obtain ⟨v0, vs0, d0, ds0, p0, q0, hargs, rfl, rfl, h0, r0⟩ := trodAll_cons hA
  obtain ⟨v1, vs1, d1, ds1, p1, q1, rfl, rfl, rfl, h1, r1⟩ := trodAll_cons r0
  obtain ⟨rfl, rfl, rfl⟩ := trodAll_nil r1
  obtain rfl : args = #[v0, v1] := by cases args; simp_all
  obtain ⟨rfl, rfl⟩ := trodVars_none hV
  have lt0 : ∀ x ∈ p0, x.block < W.heap.size := by obtain ⟨m, hm⟩ := h0; exact DataW.trod_lt m _ _ _ hm
  obtain ⟨x0, c0, w0⟩ := cameSlice (fun _ => rfl) Try.underlying22 (hval 0 22 v0 rfl rfl) (fun n => (rdRec22 _)) h0
  have lt1 : ∀ x ∈ p1, x.block < W.heap.size := by obtain ⟨m, hm⟩ := h1; exact DataW.trod_lt m _ _ _ hm
  obtain ⟨x1, c1, w1⟩ := cameSlice (fun _ => rfl) Try.underlying22 (hval 1 22 v1 rfl rfl) (fun n => (rdRec22 _)) h1
  obtain ⟨k, hk⟩ := law_joins x0 w0 x1 w1
  have hfn := f8_ok k Out [.sl true (some 4) _, .sl true (some 4) _] [] some ⟨.v (.bool true), []⟩ (hk (fun u => some (f8_out u)))
  obtain ⟨_, o, hok, ho, _⟩ := hfn
  cases ho
  refine (law_calls (hok.fn (ent_of Try.func8 (by kernel_rfl) rfl)) (VRelL.cons.2 ⟨c0, VRelL.cons.2 ⟨c1, VRelL.nil⟩⟩)).mono fun e W' ⟨he, bel⟩ => ?_
  subst he
  exact ⟨_, rfl, _, _, _, [], _, [], hW', trodAll_mk1 (shut_bool Try.underlying4 _), (trodAll_cons_mk (Below.trod laidOut (by kernel_rfl) (of_decide_eq_true (by kernel_rfl)) h0 bel lt0) (trodAll_cons_mk (Below.trod laidOut (by kernel_rfl) (of_decide_eq_true (by kernel_rfl)) h1 bel lt1) trodAll_mk0)), rfl, bel.frame _, fun h => by cases h⟩
theorem over : Rows.tlvJoinsRow.holds Try.pinned (OpenSpec.ofChange Rows.tlvJoinsSpec) :=
  OpenClaim.holds_of_wide 8 Try.f8 rfl rfl rfl rfl rfl rfl rfl ⟨rfl, rfl, rfl, rfl, rfl⟩ rfl rfl rfl rfl rfl (by kernel_rfl) Try.func8 (by kernel_rfl)
    (of_decide_eq_true (by kernel_rfl)) (by unfold Func.isWrapper; first | (rw [if_pos (by decide +kernel)]; kernel_rfl) | (rw [if_neg (by decide +kernel)]; exact ⟨rfl, rfl⟩))
    (fun os started H enc _ => lifted os started H enc)
theorem proved : Rows.TlvJoinsSaid := over
#print axioms proved
end Go.Proofs.Ytkkknhfbcflkfaa.tlvJoins
namespace Go.Proofs.Ytkkknhfbcflkfaa
/-- The row, under a short name, for the claim. -/
theorem tlvJoins_holds : Rows.TlvJoinsSaid := tlvJoins.proved
end Go.Proofs.Ytkkknhfbcflkfaa
