/- Operations that are drawn: in whatever order, the same comes out. -/
import Derived.Test.YtlaojkheenobaaaDoorTH
namespace Go.Proofs.YtlaojkheenobaaaDoorS
open Go Go.RowKit
set_option linter.unusedVariables false
set_option linter.unusedSimpArgs false
section
variable {X Y : Type} {T : Tab} {out : X} {s : St} {cx : Cx}
/-- An evaluation comes to one state. -/
def Dir (K : St → Option X) (out : X) (f : (St → Option Y) → Option Y) : Prop := ∃ s1, K s1 = some out ∧ ∀ K', f K' = K' s1
theorem new_dir {nm : Nm} {n : Node} {K : St → Option X} (h : s.new nm n K = some out) : Dir (Y := Y) K out (s.new nm n) := by
  obtain ⟨hn, h⟩ := new_some h
  exact ⟨_, h, fun K' => new_fr (ts := s.tmps) hn K'⟩
theorem rebind_dir {rs : List (Nm × Nm)} {K : St → Option X} (h : s.rebind rs K = some out) : Dir (Y := Y) K out (s.rebind rs) := by
  unfold St.rebind at h
  cases e : sameR rs with
  | true => rw [e] at h; exact ⟨_, h, fun K' => by unfold St.rebind; rw [e]; rfl⟩
  | false =>
    rw [e] at h
    simp only [cond_false] at h
    obtain ⟨h1, h⟩ := grd_some h
    exact ⟨_, h, fun K' => by unfold St.rebind; rw [e]; simp only [cond_false]; rw [h1]; rfl⟩
theorem lay2_dir {nm : Nm} {j : Nat} {us : List AVal} {K : St → Option X} (h : s.lay2 nm j us K = some out) : Dir (Y := Y) K out (s.lay2 nm j us) := by
  unfold St.lay2 at h
  simp only at h
  split at h
  · next cs hf =>
    obtain ⟨h1, h⟩ := grd_some h
    refine ⟨_, h, fun K' => ?_⟩
    unfold St.lay2
    simp only [hf]
    rw [h1]; rfl
  · cases h
theorem lay_dir {nm : Nm} {j : Nat} {us : List AVal} {K : St → Option X} (h : s.lay nm j us K = some out) : Dir (Y := Y) K out (s.lay nm j us) := by
  unfold St.lay at h
  obtain ⟨s1, h, k⟩ := rebind_dir (Y := Y) h
  have red : ∀ K' : St → Option Y, s.lay nm j us K' = (match nilNodes nm j (us.map (AVal.ren1 (rebind (adoptR nm j us)))) with
    | [] => s1.lay2 nm j (us.map (AVal.ren1 (rebind (adoptR nm j us)))) K'
    | nn => (s1.ren (goneS (nn.map (·.1)))).lay2 nm j ((us.map (AVal.ren1 (rebind (adoptR nm j us)))).map (AVal.ren1 (goneS (nn.map (·.1))))) K') := fun K' => by
    unfold St.lay
    rw [k]
    rfl
  have h' : (match nilNodes nm j (us.map (AVal.ren1 (rebind (adoptR nm j us)))) with
    | [] => s1.lay2 nm j (us.map (AVal.ren1 (rebind (adoptR nm j us)))) K
    | nn => (s1.ren (goneS (nn.map (·.1)))).lay2 nm j ((us.map (AVal.ren1 (rebind (adoptR nm j us)))).map (AVal.ren1 (goneS (nn.map (·.1))))) K) = some out := h
  cases e : nilNodes nm j (us.map (AVal.ren1 (rebind (adoptR nm j us)))) with
  | nil =>
    rw [e] at h'
    obtain ⟨s2, h, k2⟩ := lay2_dir (Y := Y) h'
    exact ⟨s2, h, fun K' => (red K').trans (by rw [e]; exact k2 K')⟩
  | cons p nn =>
    rw [e] at h'
    obtain ⟨s2, h, k2⟩ := lay2_dir (Y := Y) h'
    exact ⟨s2, h, fun K' => (red K').trans (by rw [e]; exact k2 K')⟩
theorem evBox0_dir {d : Option Tmp} {t : Nat} {x : AVal} {K : St → Option X} (h : evBox0 T s d t x K = some out) : Dir (Y := Y) K out (evBox0 T s d t x) := by
  unfold evBox0 at h
  split at h
  · cases h
  · next d =>
    obtain ⟨h1, h⟩ := grd_some h
    obtain ⟨s1, h, k1⟩ := new_dir (Y := Y) h
    cases hs : ((resize T t x).cells.all soft0) with
    | true =>
      rw [hs] at h
      simp only [cond_true] at h
      obtain ⟨s2, h, k2⟩ := lay2_dir (Y := Y) h
      refine ⟨_, h, fun K' => ?_⟩
      unfold evBox0
      simp only [h1, grd, cond_true, hs]
      rw [k1, k2]
    | false =>
      rw [hs] at h
      simp only [cond_false] at h
      obtain ⟨s2, h, k2⟩ := lay_dir (Y := Y) h
      refine ⟨_, h, fun K' => ?_⟩
      unfold evBox0
      simp only [h1, grd, cond_true, cond_false, hs]
      rw [k1, k2]
theorem evBox_dir {d : Option Tmp} {t : Nat} {x : AVal} {K : St → Option X} (h : evBox T s d t x K = some out) : Dir (Y := Y) K out (evBox T s d t x) := by
  unfold evBox at h ⊢
  cases e : flatT T t with
  | true =>
    rw [e] at h
    simp only [cond_true] at h ⊢
    unfold evBoxF at h
    split at h
    · obtain ⟨h1, h⟩ := grd_some h
      obtain ⟨s1, h, k1⟩ := new_dir (Y := Y) h
      exact ⟨_, h, fun K' => by unfold evBoxF; simp only [h1, grd, cond_true]; rw [k1]⟩
    · cases h
  | false =>
    rw [e] at h
    simp only [cond_false] at h ⊢
    obtain ⟨z, h1, _, k⟩ := expand_fr (Y := Y) h
    obtain ⟨s1, h2, k2⟩ := evBox0_dir (Y := Y) h1
    exact ⟨s1, h2, fun K' => (k _).trans (k2 K')⟩
theorem evConv_dir {d : Option Tmp} {src dst : Nat} {x : AVal} {K : St → Option X} (h : evConv T s d src dst x K = some out) : Dir (Y := Y) K out (evConv T s d src dst x) := by
  cases hg : (cvF T src dst x).glob with
  | false =>
    obtain ⟨z, h1, k⟩ := evConv_fr (Y := Y) hg h
    exact ⟨_, h1, fun K' => k s (fun _ _ => rfl) K'⟩
  | true =>
    unfold cvF at hg
    split at hg
    · next e1 e2 =>
      unfold evConv at h
      rw [e1, e2] at h
      simp only at h
      split at h
      · next d b =>
        obtain ⟨g1, h⟩ := grd_some h
        obtain ⟨g2, h⟩ := grd_some h
        obtain ⟨hn, h⟩ := new_some h
        refine ⟨_, h, fun K' => ?_⟩
        unfold evConv
        rw [e1, e2]
        simp only [g1, g2, grd, cond_true]
        exact new_fr hn _
      · cases h
    · cases hg
theorem evAssign_dir {d : Option Tmp} {x : AVal} {K : St → Option X} (h : evAssign s d x K = some out) : Dir (Y := Y) K out (evAssign s d x) := by
  unfold evAssign at h
  split at h
  · exact ⟨_, h, fun K' => rfl⟩
  · next t =>
    simp only at h
    obtain ⟨s1, h, k⟩ := rebind_dir (Y := Y) h
    exact ⟨_, h, fun K' => by unfold evAssign; simp only; rw [k]⟩
theorem evStore_dir {t : Nat} {a x : AVal} {K : St → Option X} (h : evStore T s t a x K = some out) : Dir (Y := Y) K out (evStore T s t a x) := by
  unfold evStore at h
  split at h
  · next nm sz i j =>
    split at h
    · next cs hf =>
      obtain ⟨z, h, _, kz⟩ := expand_fr (Y := Y) h
      simp only at h
      obtain ⟨h1, h⟩ := grd_some h
      obtain ⟨s1, h, k⟩ := lay_dir (Y := Y) h
      refine ⟨_, h, fun K' => ?_⟩
      unfold evStore
      simp only [hf]
      refine (kz _).trans ?_
      rw [h1]; exact k K'
    · next sh xs hf =>
      obtain ⟨h1, h⟩ := grd_some h
      obtain ⟨c, h2, h⟩ := Option.bind_eq_some_iff.1 h
      have red : ∀ K' : St → Option Y, evStore T s t (.ptr nm sz i j) x K' = putEl T t sh xs i j c fun ys => K' ((⟨s.tmps, frzN x.lv1 s.nodes⟩ : St).setN nm (.row false sh ys)) := fun K' => by
        unfold evStore
        simp only [hf, h1, h2, grd, cond_true, Option.bind_some]
      obtain ⟨ys, h, k⟩ := putEl_dir (Y := Y) h
      exact ⟨_, h, fun K' => (red K').trans (k _)⟩
    · cases h
  · cases h
theorem evOp_dir {o : Oper} {ρ : Operand → AVal} {K : St → Option X} (h : evOpR cx ρ s o K = some out) : Dir (Y := Y) K out (fun K' => evOpR cx ρ s o K') := by
  cases hg : (footR cx ρ o).glob with
  | false =>
    rcases evOp_fr (Y := Y) hg h with ⟨_, z, h1, k⟩ | ⟨_, z, ns, h1, k, _⟩
    · exact ⟨_, h1, fun K' => k s (fun _ _ => rfl) K'⟩
    · exact ⟨_, h1, fun K' => k s.tmps K'⟩
  | true =>
    obtain ⟨dst, op, ty, pos, aft, gd⟩ := o
    cases op with
    | move x => exact absurd (show (mvF (ρ x)).glob = true from by assumption) (by rw [(mvF_fix (ρ x)).2]; decide)
    | nilCheck x => exact absurd (show (mvF (ρ x)).glob = true from by assumption) (by rw [(mvF_fix (ρ x)).2]; decide)
    | assign x => exact evAssign_dir h
    | alloc t => exact evBox_dir h
    | box t x => exact evBox_dir h
    | store t a x =>
      obtain ⟨s1, h1, k⟩ := evStore_dir (Y := Y) (show evStore cx.T s t (ρ a) (ρ x) (fun s => K (s.put dst (.tup []))) = some out from h)
      exact ⟨_, h1, fun K' => k (fun s => K' (s.put dst (.tup [])))⟩
    | call c =>
      obtain ⟨callee, args, atys⟩ := c
      cases callee with
      | value f =>
        have h' : (match ρ f with
          | .fn g caps => evCall cx s dst g (resA cx.T atys.toList (args.toList.map ρ) ++ caps) K
          | _ => none) = some out := h
        split at h'
        · next g caps e =>
          have : (match ρ f with
            | .fn g caps => (⟨(resA cx.T atys.toList (args.toList.map ρ) ++ caps).flatMap AVal.names, dstN dst ++ ftArgs (cx.md g) 0 (resA cx.T atys.toList (args.toList.map ρ) ++ caps), false, true, 2⟩ : Ft)
            | _ => ⟨[], [], true, true, 0⟩).glob = true := hg
          rw [e] at this
          cases this
        · cases h'
      | builtin b => cases b <;> cases hg
      | invoke r m => cases h
    | range t x =>
      have h' : evRange cx.T s dst t (ρ x) K = some out := h
      unfold evRange at h'
      split at h'
      · next e1 e2 e3 =>
        obtain ⟨h1, h2⟩ := grd_some h'
        obtain ⟨s1, h3, k1⟩ := new_dir (Y := Y) h2
        refine ⟨_, h3, fun K' => ?_⟩
        show evRange cx.T s _ t (ρ x) K' = _
        unfold evRange
        rw [e3]
        simp only [h1, grd, cond_true]
        rw [k1]
      · cases h'
    | next x b =>
      have h' : evNext s dst b (ρ x) K = some out := h
      have e0 : ∀ K' : St → Option Y, evOpR cx ρ s ⟨dst, .next x b, ty, pos, aft, gd⟩ K' = evNext s dst b (ρ x) K' := fun _ => rfl
      unfold evNext at h'
      split at h'
      · next nm sz i j e2 =>
        split at h'
        · next bb p hf =>
          obtain ⟨h1, h2⟩ := grd_some h'
          cases hd : decide (p < bb.size) with
          | true =>
            rw [hd] at h2
            refine ⟨_, h2, fun K' => ?_⟩
            refine (e0 K').trans ?_
            unfold evNext
            rw [e2]
            simp only [hf, h1, hd, grd, cond_true]
          | false =>
            rw [hd] at h2
            refine ⟨_, h2, fun K' => ?_⟩
            refine (e0 K').trans ?_
            unfold evNext
            rw [e2]
            simp only [hf, h1, hd, grd, cond_true, cond_false]
        · cases h'
      · cases h'
    | convert q1 q2 x =>
      obtain ⟨s1, h1, k⟩ := evConv_dir (Y := Y) (show evConv cx.T s dst q1 q2 (ρ x) K = some out from h)
      exact ⟨s1, h1, fun K' => k K'⟩
    | _ => cases hg
theorem evG_dir {ops : Array Oper} {o : Oper} {K : St → Option X} (h : evG cx ops s o K = some out) : Dir (Y := Y) K out (fun K' => evG cx ops s o K') := by
  unfold evG at h
  split at h
  · next hg =>
    obtain ⟨s1, h, k⟩ := evOp_dir (Y := Y) h
    exact ⟨s1, h, fun K' => by unfold evG; simp only [hg]; exact k K'⟩
  · next j want hg =>
    split at h
    · next t ht =>
      split at h
      · next b hb =>
        cases e : (b == want) with
        | true =>
          rw [e] at h
          obtain ⟨s1, h, k⟩ := evOp_dir (Y := Y) h
          exact ⟨s1, h, fun K' => by unfold evG; simp only [hg, ht, hb, e]; exact k K'⟩
        | false =>
          rw [e] at h
          exact ⟨_, h, fun K' => by unfold evG; simp only [hg, ht, hb, e]; rfl⟩
      · next hb => exact ⟨_, h, fun K' => by unfold evG; simp only [hg, ht, hb]⟩
      · cases h
    · cases h
end
end Go.Proofs.YtlaojkheenobaaaDoorS
