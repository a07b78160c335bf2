/- The row of TlvFinds: whatever comes in, the Go function answers true: by the printed functions, which the kernel has held against the program's code, and a plain law of these. -/
import Derived.Test.YtkkknhfbcflkfaaRows
import Derived.Test.YtkkknhfbcflkfaaTZ
import Derived.Test.YtkkknhfbcflkfaaPm
import Derived.WalkKit
import Derived.ProofKit
import Derived.OpenShut
import Derived.ShutString
import Derived.ChangeOld
import Derived.Below
import Derived.SizedLaws
namespace Go.Proofs.Ytkkknhfbcflkfaa.tlvFinds
open Go.ChangeShapes Go.WideShapes Go.ChangeAt Go.RowKit
open Go.ChangeMaps (open_string shut_string)
open Go Go.Proofs.YtkkknhfbcflkfaaS Go.Proofs.YtkkknhfbcflkfaaD Go.Proofs
set_option linter.unusedVariables false
theorem own : ownKnob Try.prog.godebug = none := by kernel_rfl
theorem laidOut : laidOutB Try.prog = true := by kernel_rfl
theorem rdEl39 (n : Nat) (h : ∀ m, m < n → RdZ Try.prog m 22 (fun ts : TS => .slc (some 4) ts.row) (fun ts => ts.len ≤ reachBytes ∧ ts.wz)) : RdZ Try.prog n 39 (fun a : Int × Int × List Int × TS × Unit => .agg [.int .i64 a.1, .int .i64 a.2.1, .slc none (a.2.2.1.map fun y => .int .u8 y), .slc (some 4) a.2.2.2.1.row]) (fun a => (Lit.int .i64 a.1).wf = true ∧ (Lit.int .i64 a.2.1).wf = true ∧ (a.2.2.1.length ≤ reachBytes ∧ ∀ y ∈ a.2.2.1, (Lit.int .u8 y).wf = true) ∧ (a.2.2.2.1.len ≤ reachBytes ∧ a.2.2.2.1.wz) ∧ True) := by
  cases n with
  | zero =>
    intro H enc w fuel cs x hf hx hz
    obtain ⟨xs, m, rfl, _⟩ := DataW.trod_struct Try.underlying39 hx
    omega
  | succ m =>
    have hm := h m (Nat.lt_succ_self m)
    exact RdZ.struct (fs := [(3, 0), (3, 1), (25, 2), (22, 3)]) (by kernel_rfl) (by kernel_rfl) (RdFz.cons (RdC.int Try.underlying3).z (by kernel_rfl) (fun _ => rfl) (RdFz.cons (RdC.int Try.underlying3).z (by kernel_rfl) (fun _ => rfl) (RdFz.cons ((RdZ.slice none Try.underlying25 (by kernel_rfl) (by kernel_rfl) (by decide) (by intro _; rfl) (RdC.int Try.underlying5).z).mono (Nat.le_succ _)) (by kernel_rfl) (fun _ => rfl) (RdFz.cons (hm : RdZ Try.prog m 22 (fun ts : TS => .slc (some 4) ts.row) (fun ts => ts.len ≤ reachBytes ∧ ts.wz)) (by kernel_rfl) (fun _ => rfl) RdFz.nil))))
theorem rdRec22 : ∀ n, RdZ Try.prog n 22 (fun ts : TS => .slc (some 4) ts.row) (fun ts => ts.len ≤ reachBytes ∧ ts.wz) := by
  intro n
  induction n using Nat.strongRecOn with
  | ind n ih =>
    cases n with
    | zero =>
      intro H enc w fuel cs x hf hx hz
      rcases DataW.trod_slice Try.underlying22 hx with ⟨rfl, _⟩ | ⟨a, len, cap, elems, rest, m, rfl, rfl, _⟩
      · exact ⟨.nil, .inl ⟨rfl, _, rfl, .slc0 _ _ _⟩, Nat.zero_le _, trivial⟩
      · omega
    | succ n =>
      refine (RdZ.slice (some 4) Try.underlying22 (by kernel_rfl) (by kernel_rfl) (by decide) (by intro _; exact ⟨rfl, rfl⟩) (rdEl39 n (fun m hm => ih m (by omega)))).iso (fun l hl => ⟨TS.ofL l, ?_, ?_, ofL_wz l hl.2⟩)
      · rw [ofL_row]
      · rw [ofL_len]; exact hl.1
set_option maxRecDepth 100000 in
theorem lifted (os : Os) (started : os.Started) (H : Type) (enc : TypeId × Value → H) :
    ReturnsInHanded {} Try.checked os 5 .any (Rows.tlvFindsSpec.pre6 enc Try.prog Try.f5 Rows.tlvFindsRow.domain false) (Rows.tlvFindsSpec.post enc Try.prog Try.f5 false true false false) := by
  refine returnsInHanded_of_change_sized (C := Try.checked) own started (by kernel_rfl) Try.func5
    (ChangeSpec.witness6 (enc := enc) (C := Try.checked) false ⟨#[], #[.slice none 0 0, .slice none 0 0, .int .i64 0, .int .i64 0], []⟩ 8 (by kernel_rfl) (by kernel_rfl) (by kernel_rfl) (by kernel_rfl)) ?_
  intro W base args ds gs before hval0 hW hcnd hsz0 _
  have hval : ∀ (j : Nat) t v, Try.f5.params[j]? = some t → args[j]? = some v → Value.okWide Try.prog W .any base t v := hval0
  have hW' := hW
  obtain ⟨p, q, hA0, hV, rfl, hfz, hnd⟩ := hW
  have hA : DataW.TrodAll enc Try.prog W 0 (fun _ => true) true Try.f5.params.toList args.toList ds p := hA0
  rw [Try.params5] at hA hval hsz0
  obtain ⟨v0, vs0, d0, ds0, p0, q0, hargs, rfl, rfl, h0, r0⟩ := trodAll_cons hA
  obtain ⟨v1, vs1, d1, ds1, p1, q1, rfl, rfl, rfl, h1, r1⟩ := trodAll_cons r0
  obtain ⟨v2, vs2, d2, ds2, p2, q2, rfl, rfl, rfl, h2, r2⟩ := trodAll_cons r1
  obtain ⟨v3, vs3, d3, ds3, p3, q3, rfl, rfl, rfl, h3, r3⟩ := trodAll_cons r2
  obtain ⟨rfl, rfl, rfl⟩ := trodAll_nil r3
  obtain rfl : args = #[v0, v1, v2, v3] := by cases args; simp_all
  obtain ⟨rfl, rfl⟩ := trodVars_none hV
  obtain ⟨z0, hz0⟩ := wt_head (t := 22) (d := d0) hsz0
  obtain ⟨z1, hz1⟩ := wt_head (t := 22) (d := d1) hz0
  obtain ⟨z2, hz2⟩ := wt_head (t := 3) (d := d2) hz1
  obtain ⟨z3, hz3⟩ := wt_head (t := 3) (d := d3) hz2
  have lt0 : ∀ x ∈ p0, x.block < W.heap.size := by obtain ⟨m, hm⟩ := h0; exact DataW.trod_lt m _ _ _ hm
  obtain ⟨x0, c0, w0⟩ := cameSliceZ (fun _ => rfl) Try.underlying22 (hval 0 22 v0 rfl rfl) (fun n => (rdRec22 _)) h0 z0
  have lt1 : ∀ x ∈ p1, x.block < W.heap.size := by obtain ⟨m, hm⟩ := h1; exact DataW.trod_lt m _ _ _ hm
  obtain ⟨x1, c1, w1⟩ := cameSliceZ (fun _ => rfl) Try.underlying22 (hval 1 22 v1 rfl rfl) (fun n => (rdRec22 _)) h1 z1
  have lt2 : ∀ x ∈ p2, x.block < W.heap.size := by obtain ⟨m, hm⟩ := h2; exact DataW.trod_lt m _ _ _ hm
  obtain ⟨x2, c2, w2⟩ := cameInt Try.underlying3 (hval 2 3 v2 rfl rfl) h2
  have lt3 : ∀ x ∈ p3, x.block < W.heap.size := by obtain ⟨m, hm⟩ := h3; exact DataW.trod_lt m _ _ _ hm
  obtain ⟨x3, c3, w3⟩ := cameInt Try.underlying3 (hval 3 3 v3 rfl rfl) h3
  obtain ⟨k, hk⟩ := law_finds x0 w0 x1 w1 x2 w2 x3 w3
  have hfn := f5_ok k Out [.sl true (some 4) _, .sl true (some 4) _, .v (.int .i64 x2), .v (.int .i64 x3)] [] some ⟨.v (.bool true), []⟩ (hk (fun u => some (f5_out u)))
  obtain ⟨_, o, hok, ho, _⟩ := hfn
  cases ho
  refine (law_calls (hok.fn (ent_of Try.func5 (by kernel_rfl) rfl)) (VRelL.cons.2 ⟨c0, VRelL.cons.2 ⟨c1, VRelL.cons.2 ⟨c2, VRelL.cons.2 ⟨c3, VRelL.nil⟩⟩⟩⟩)).mono fun e W' ⟨he, bel⟩ => ?_
  subst he
  exact ⟨_, rfl, _, _, _, [], _, [], hW', trodAll_mk1 (shut_bool Try.underlying4 _), (trodAll_cons_mk (Below.trod laidOut (by kernel_rfl) (of_decide_eq_true (by kernel_rfl)) h0 bel lt0) (trodAll_cons_mk (Below.trod laidOut (by kernel_rfl) (of_decide_eq_true (by kernel_rfl)) h1 bel lt1) (trodAll_cons_mk (Below.trod laidOut (by kernel_rfl) (of_decide_eq_true (by kernel_rfl)) h2 bel lt2) (trodAll_cons_mk (Below.trod laidOut (by kernel_rfl) (of_decide_eq_true (by kernel_rfl)) h3 bel lt3) trodAll_mk0)))), rfl, bel.frame _, fun h => by cases h⟩
theorem over : Rows.tlvFindsRow.holds Try.pinned (OpenSpec.ofChange Rows.tlvFindsSpec) :=
  OpenClaim.holds_of_wide 5 Try.f5 rfl rfl rfl rfl rfl rfl rfl ⟨rfl, rfl, rfl, rfl, rfl⟩ rfl rfl rfl rfl rfl (by kernel_rfl) Try.func5 (by kernel_rfl)
    (of_decide_eq_true (by kernel_rfl)) (by unfold Func.isWrapper; first | (rw [if_pos (by decide +kernel)]; kernel_rfl) | (rw [if_neg (by decide +kernel)]; exact ⟨rfl, rfl⟩))
    (fun os started H enc _ => lifted os started H enc)
theorem proved : Rows.TlvFindsSaid := over
#print axioms proved
end Go.Proofs.Ytkkknhfbcflkfaa.tlvFinds
namespace Go.Proofs.Ytkkknhfbcflkfaa
/-- The row, under a short name, for the claim. -/
theorem tlvFinds_holds : Rows.TlvFindsSaid := tlvFinds.proved
end Go.Proofs.Ytkkknhfbcflkfaa
