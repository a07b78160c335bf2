/- What an operation's evaluation turns: those that lay blocks, and calls. -/
import Derived.Test.YtpgmebpkagbmoaaTF
namespace Go.Proofs.YtpgmebpkagbmoaaS
open Go Go.RowKit
set_option linter.unusedVariables false
set_option linter.unusedSimpArgs false
section
variable {X Y : Type} {T : Tab} {out : X} {s : St}
/-- An evaluation that lays blocks: of the temporaries it turns but its own, of the names but those told. -/
def CFr (d : Option Tmp) (wr : List Nm) (s : St) (K : St → Option X) (out : X) (f : List AVal → (St → Option Y) → Option Y) : Prop :=
  ∃ z ns, K ((⟨s.tmps, ns⟩ : St).put d z) = some out ∧ (∀ ts K', f ts K' = K' ((⟨ts, ns⟩ : St).put d z)) ∧ ∀ nm, (∀ m ∈ wr, kin m nm = false) → find nm ns = find nm s.nodes
theorem strip_append : ∀ (p r : Nm), (strip r (p ++ r)).isSome = true
  | [], r => by cases r <;> simp [strip, nmEq_refl]
  | j :: p, r => by
    show (strip r (j :: (p ++ r))).isSome = true
    unfold strip
    cases e : nmEq (j :: (p ++ r)) r with
    | true => rfl
    | false =>
      have := strip_append p r
      cases e2 : strip r (p ++ r) with
      | none => rw [e2] at this; cases this
      | some q => simp [e2]
theorem strip_some : ∀ {r l p : Nm}, strip r l = some p → l = p ++ r
  | r, [], p, h => by
    unfold strip at h
    cases e : nmEq [] r with
    | true => rw [e] at h; cases h; exact nmEq_iff.1 e
    | false => rw [e] at h; cases h
  | r, j :: l, p, h => by
    unfold strip at h
    cases e : nmEq (j :: l) r with
    | true => rw [e] at h; cases h; exact nmEq_iff.1 e
    | false =>
      rw [e] at h
      simp only [cond_false] at h
      split at h
      · next q e2 => cases h; rw [strip_some e2]; rfl
      · cases h
theorem kin_refl (m : Nm) : kin m m = true := by
  have := strip_append [] m
  simp only [List.nil_append] at this
  simp [kin, this]
theorem kin_app (p r : Nm) : kin r (p ++ r) = true := by simp [kin, strip_append p r]
theorem kin_ne {m nm : Nm} (h : kin m nm = false) : nm ≠ m := fun e => by subst e; rw [kin_refl] at h; cases h
theorem find_cons_ne {m nm : Nm} {n : Node} {l : Nodes} (h : nm ≠ m) : find nm ((m, n) :: l) = find nm l := by simp [find, nmEq_ne h.symm]
theorem find_frzN {nm : Nm} : ∀ (l : List Nm) (ns : Nodes), nm ∉ l → find nm (frzN l ns) = find nm ns
  | [], ns, _ => rfl
  | m :: l, ns, h => by
    simp only [List.mem_cons, not_or] at h
    unfold frzN
    split
    · rw [find_frzN l _ h.2, find_upd_ne h.1]
    · exact find_frzN l ns h.2
theorem new_fr {ts : List AVal} {ns : Nodes} {nm : Nm} {n : Node} (h : find nm ns = none) (K' : St → Option Y) : (⟨ts, ns⟩ : St).new nm n K' = K' ⟨ts, (nm, n) :: ns⟩ := by
  unfold St.new
  simp only [h]
theorem evMakeSlice_fr {d : Option Tmp} {t : Nat} {l c : AVal} {K : St → Option X} (h : evMakeSlice T s d t l c K = some out) : CFr (Y := Y) d (dstN d) s K out (fun ts K' => evMakeSlice T ⟨ts, s.nodes⟩ d t l c K') := by
  unfold evMakeSlice at h
  split at h
  · next d e _ _ _ eq =>
    obtain ⟨l', h, k1⟩ := asI_fr (Y := Y) h
    obtain ⟨c', h, k2⟩ := asI_fr (Y := Y) h
    split at h
    · next z hz =>
      obtain ⟨h1, h⟩ := grd_some h
      obtain ⟨h2, h⟩ := grd_some h
      obtain ⟨h3, h⟩ := grd_some h
      obtain ⟨h4, h⟩ := grd_some h
      obtain ⟨hn, h⟩ := new_some h
      refine ⟨_, _, h, fun ts K' => ?_, fun nm hnm => find_cons_ne (kin_ne (hnm [d] List.mem_cons_self))⟩
      unfold evMakeSlice
      simp only [eq, k1, k2, hz, h1, h2, h3, h4, grd, cond_true]
      exact new_fr hn _
    · cases h
  · cases h
theorem elemsL_fr {e : Nat} {ns : Nodes} : ∀ (ps : List (Nat × AVal)) (xs : List CV) {K : List CV → Option X}, elemsL T e ns ps xs K = some out → ∃ z, K z = some out ∧ ∀ K' : List CV → Option Y, elemsL T e ns ps xs K' = K' z
  | [], xs, K, h => ⟨xs, h, fun K' => rfl⟩
  | (i, x) :: l, xs, K, h => by
    unfold elemsL at h
    obtain ⟨c, h1, h⟩ := Option.bind_eq_some_iff.1 h
    obtain ⟨h2, h⟩ := grd_some h
    obtain ⟨z, h, k⟩ := elemsL_fr l _ h
    exact ⟨z, h, fun K' => by unfold elemsL; simp only [h1, Option.bind_some, h2, grd, cond_true, k]⟩
theorem mem_lv0 {x : AVal} {m : Nm} (h : m ∈ x.lv0) : m ∈ x.names0 := by cases x <;> simp_all [AVal.lv0, AVal.names0]
theorem mem_lv1 {x : AVal} {m : Nm} (h : m ∈ x.lv1) : m ∈ x.names := by
  cases x with
  | agg cs =>
    simp only [AVal.lv1, AVal.names, List.mem_flatMap] at *
    obtain ⟨c, h1, h2⟩ := h
    exact ⟨c, h1, mem_lv0 h2⟩
  | osl nm sh off len => exact h
  | _ => simp [AVal.lv1, AVal.lv0] at h
theorem evBuildSlice_fr {d : Option Tmp} {t n : Nat} {ps : List (Nat × AVal)} {K : St → Option X} (h : evBuildSlice T s d t n ps K = some out) : CFr (Y := Y) d (dstN d ++ ps.flatMap fun p => p.2.names) s K out (fun ts K' => evBuildSlice T ⟨ts, s.nodes⟩ d t n ps K') := by
  unfold evBuildSlice at h
  split at h
  · next d e _ _ _ eq =>
    split at h
    · next z hz =>
      obtain ⟨h1, h⟩ := grd_some h
      obtain ⟨xs, h, k⟩ := elemsL_fr (Y := Y) _ _ h
      obtain ⟨hn, h⟩ := new_some h
      refine ⟨_, _, h, fun ts K' => ?_, fun nm hnm => ?_⟩
      · unfold evBuildSlice
        simp only [eq, hz, h1, grd, cond_true, k]
        exact new_fr hn _
      · refine (find_cons_ne (kin_ne (hnm [d] (by simp [dstN])))).trans (find_frzN _ _ fun hm => ?_)
        obtain ⟨p, hp, hm⟩ := List.mem_flatMap.1 hm
        have := hnm nm (List.mem_append_right _ (List.mem_flatMap.2 ⟨p, hp, mem_lv1 hm⟩))
        rw [kin_refl] at this; cases this
    · cases h
  · cases h
theorem rowOf_fr {ns : Nodes} {x : AVal} {K : Option Nat → List CV → Option X} (h : rowOf ns x K = some out) : ∃ sh xs, K sh xs = some out ∧ ∀ K' : Option Nat → List CV → Option Y, rowOf ns x K' = K' sh xs := by
  unfold rowOf at h ⊢
  split at h
  · exact ⟨_, _, h, fun K' => rfl⟩
  · exact ⟨_, _, h, fun K' => rfl⟩
  · exact ⟨_, _, h, fun K' => rfl⟩
  · split at h
    · next e => exact ⟨_, _, h, fun K' => by simp only [e]⟩
    · cases h
  · cases h
theorem srcOf_fr {ns : Nodes} {x : AVal} {K : Option Nat → List CV → Option X} (h : srcOf ns x K = some out) : ∃ sh xs, K sh xs = some out ∧ ∀ K' : Option Nat → List CV → Option Y, srcOf ns x K' = K' sh xs := by
  unfold srcOf at h
  split at h
  · exact ⟨_, _, h, fun K' => rfl⟩
  · next hne =>
    obtain ⟨sh, xs, h, k⟩ := rowOf_fr (Y := Y) h
    refine ⟨sh, xs, h, fun K' => ?_⟩
    unfold srcOf
    split
    · next s => exact absurd rfl (hne s)
    · exact k K'
theorem evAppend_fr {d : Option Tmp} {t tx : Nat} {x y : AVal} {K : St → Option X} (h : evAppend T s d t tx x y K = some out) : CFr (Y := Y) d (dstN d ++ x.names) s K out (fun ts K' => evAppend T ⟨ts, s.nodes⟩ d t tx x y K') := by
  unfold evAppend at h
  split at h
  · next d e _ _ _ eq =>
    obtain ⟨h1, h⟩ := grd_some h
    obtain ⟨sh', ys, h, k⟩ := srcOf_fr (Y := Y) h
    split at h
    · obtain ⟨h2, h⟩ := grd_some h
      obtain ⟨h3, h⟩ := grd_some h
      obtain ⟨hn, h⟩ := new_some h
      refine ⟨_, _, h, fun ts K' => ?_, fun nm hnm => find_cons_ne (kin_ne (hnm [d] (by simp [dstN])))⟩
      unfold evAppend
      simp only [eq, h1, grd, cond_true, k, h2, h3]
      exact new_fr hn _
    · next nm0 sh off len =>
      split at h
      · next sh0 xs hf =>
        cases eo : ownSrc _ y with
        | true =>
          rw [eo] at h
          obtain ⟨h2, h⟩ := grd_some h
          obtain ⟨h3, h⟩ := grd_some h
          refine ⟨_, _, h, fun ts K' => ?_, fun nm hnm => ?_⟩
          · unfold evAppend
            simp only [eq, h1, grd, cond_true, k, h2, h3, hf, eo]
            rfl
          · refine find_upd_ne (kin_ne (hnm _ ?_)) _
            simp [dstN, AVal.names, AVal.names0]
        | false =>
        rw [eo] at h
        obtain ⟨h2, h⟩ := grd_some h
        obtain ⟨h3, h⟩ := grd_some h
        obtain ⟨hn, h⟩ := new_some h
        refine ⟨_, _, h, fun ts K' => ?_, fun nm hnm => ?_⟩
        · unfold evAppend
          simp only [eq, h1, grd, cond_true, cond_false, k, h2, h3, hf, eo]
          exact new_fr hn _
        · refine (find_cons_ne (kin_ne (hnm [d] (by simp [dstN])))).trans (find_upd_ne (kin_ne (hnm _ ?_)) _)
          simp [dstN, AVal.names, AVal.names0]
      · cases h
    · cases h
  · cases h
theorem evClear_fr {d : Option Tmp} {t : Nat} {x : AVal} {K : St → Option X} (h : evClear T s t x (fun s => K (s.put d (.tup []))) = some out) : CFr (Y := Y) d x.names s K out (fun ts K' => evClear T ⟨ts, s.nodes⟩ t x (fun s => K' (s.put d (.tup [])))) := by
  unfold evClear at h
  split at h
  · next e _ _ _ eq =>
    split at h
    · split at h
      · next sh0 xs z hf hz =>
        obtain ⟨h2, h⟩ := grd_some h
        obtain ⟨h3, h⟩ := grd_some h
        refine ⟨_, _, h, fun ts K' => ?_, fun nm hnm => ?_⟩
        · unfold evClear
          simp only [eq, hf, hz, h2, h3, grd, cond_true]
          rfl
        · exact find_upd_ne (kin_ne (hnm _ (by simp [AVal.names, AVal.names0]))) _
      · cases h
    · refine ⟨_, _, h, fun ts K' => ?_, fun nm hnm => rfl⟩
      unfold evClear
      simp only [eq]
    · cases h
  · cases h
theorem adoptR_soft {nm : Nm} : ∀ (us : List AVal) (j : Nat), us.all soft0 = true → adoptR nm j us = []
  | [], j, _ => rfl
  | x :: l, j, h => by
    rw [List.all_cons, Bool.and_eq_true] at h
    cases x <;> first | (simp [soft0] at h; done) | exact adoptR_soft l (j + 1) h.2
theorem nilNodes_soft {nm : Nm} : ∀ (us : List AVal) (j : Nat), us.all soft0 = true → nilNodes nm j us = []
  | [], j, _ => rfl
  | x :: l, j, h => by
    rw [List.all_cons, Bool.and_eq_true] at h
    cases x <;> first | (simp [soft0] at h; done) | exact nilNodes_soft l (j + 1) h.2
theorem ren_idS {σ : Nm → Sb} (hσ : ∀ m, σ m = .to m) {x : AVal} (h : soft0 x = true) : soft0 (x.ren1 σ) = true := by
  cases x <;> first | (simp [soft0] at h; done) | simp [AVal.ren1, AVal.ren0, soft0, hσ]
theorem rebind_nil (m : Nm) : rebind [] m = .to m := rfl
theorem lay_soft {ts : List AVal} {ns : Nodes} {nm : Nm} {us : List AVal} (hu : us.all soft0 = true) (K' : St → Option Y) : (⟨ts, ns⟩ : St).lay nm 0 us K' = (⟨ts, ns⟩ : St).lay2 nm 0 (us.map (AVal.ren1 (rebind []))) K' := by
  unfold St.lay
  rw [adoptR_soft us 0 hu]
  have h2 : (us.map (AVal.ren1 (rebind []))).all soft0 = true := by
    rw [List.all_eq_true] at hu ⊢
    intro x hx
    obtain ⟨y, hy, rfl⟩ := List.mem_map.1 hx
    exact ren_idS rebind_nil (hu y hy)
  show (match nilNodes nm 0 (us.map (AVal.ren1 (rebind []))) with
    | [] => (⟨ts, ns⟩ : St).lay2 nm 0 (us.map (AVal.ren1 (rebind []))) K'
    | nn => _) = _
  rw [nilNodes_soft _ 0 h2]
theorem lay2_fr {ts : List AVal} {ns : Nodes} {nm : Nm} {j : Nat} {us : List AVal} {K : St → Option X} (h : (⟨ts, ns⟩ : St).lay2 nm j us K = some out) (hn : nilNodes nm j us = []) :
    ∃ ns', K ⟨ts, ns'⟩ = some out ∧ (∀ ts (K' : St → Option Y), (⟨ts, ns⟩ : St).lay2 nm j us K' = K' ⟨ts, ns'⟩) ∧ ∀ m, m ≠ nm → find m ns' = find m ns := by
  unfold St.lay2 at h
  simp only [hn] at h
  split at h
  · next cs hf =>
    obtain ⟨h1, h⟩ := grd_some h
    refine ⟨_, h, fun ts K' => ?_, fun m hm => find_upd_ne hm _⟩
    unfold St.lay2
    simp only [hn, hf]
    simp only [h1, grd, cond_true]
  · cases h
theorem evBox0_fr {d : Option Tmp} {t : Nat} {x : AVal} {K : St → Option X} (h : evBox0 T s d t x K = some out) (hu : (resize T t x).cells.all soft0 = true) : CFr (Y := Y) d (dstN d) s K out (fun ts K' => evBox0 T ⟨ts, s.nodes⟩ d t x K') := by
  unfold evBox0 at h
  split at h
  · cases h
  · next d =>
    obtain ⟨h1, h⟩ := grd_some h
    obtain ⟨hn, h⟩ := new_some h
    rw [lay_soft hu] at h
    have h2 : ((resize T t x).cells.map (AVal.ren1 (rebind []))).all soft0 = true := by
      rw [List.all_eq_true] at hu ⊢
      intro x hx
      obtain ⟨y, hy, rfl⟩ := List.mem_map.1 hx
      exact ren_idS rebind_nil (hu y hy)
    obtain ⟨ns', h, k1, k2⟩ := lay2_fr (Y := Y) h (nilNodes_soft _ 0 h2)
    refine ⟨_, _, h, fun ts K' => ?_, fun nm hnm => ?_⟩
    · unfold evBox0
      simp only [h1, grd, cond_true]
      rw [new_fr hn, lay_soft hu, k1]
    · have := kin_ne (hnm [d] List.mem_cons_self)
      exact (k2 nm this).trans (find_cons_ne this)
theorem soft_resize {t : Nat} {us : List AVal} (h : us.all soft0 = true) : (resize T t (.agg us)).cells.all soft0 = true := h
theorem evBox_fr {d : Option Tmp} {t : Nat} {x : AVal} {K : St → Option X} (h : evBox T s d t x K = some out) (hu : (resize T t x).cells.all soft0 = true) : CFr (Y := Y) d (dstN d) s K out (fun ts K' => evBox T ⟨ts, s.nodes⟩ d t x K') := by
  obtain ⟨z, h1, hz, k⟩ := expand_fr (Y := Y) h
  have hu' : (resize T t z).cells.all soft0 = true := by
    rcases hz with rfl | ⟨us, rfl, hs⟩
    · exact hu
    · exact soft_resize hs
  obtain ⟨y, ns, g1, g2, g3⟩ := evBox0_fr (Y := Y) h1 hu'
  exact ⟨y, ns, g1, fun ts K' => (k _).trans (g2 ts K'), g3⟩
theorem find_afterN {σ bv : Nm → Sb} {on : Nodes} {m : Nm} (h : σ m = .gone) : ∀ ns : Nodes, find m (afterN σ bv on ns) = find m ns
  | [] => rfl
  | (q, n) :: l => by
    unfold afterN find
    cases e : nmEq q m with
    | true =>
      have e' := nmEq_iff.1 e
      subst e'
      simp only [cond_true, after1, h]
    | false => simp only [cond_false]; exact find_afterN h l
theorem rootsIn_mem {md : Nat → Nat} : ∀ (l : List AVal) (i : Nat) {p : Nm × Nm}, p ∈ rootsIn md i l → p.1 ∈ ftArgs md i l
  | [], i, p, h => by simp [rootsIn] at h
  | .ptr nm sz q j :: l, i, p, h => by
    unfold rootsIn at h
    unfold ftArgs
    rcases List.mem_cons.1 h with rfl | h
    · exact List.mem_cons_self
    · exact List.mem_cons_of_mem _ (rootsIn_mem l (i + 1) h)
  | .osl nm sh off len :: l, i, p, h => by
    unfold rootsIn at h
    unfold ftArgs
    cases e : Nat.beq (md i) 2 with
    | true =>
      rw [e] at h
      have e := Nat.eq_of_beq_eq_true e
      rcases List.mem_cons.1 h with rfl | h
      · rw [e]; exact List.mem_append_left _ List.mem_cons_self
      · exact List.mem_append_right _ (rootsIn_mem l (i + 1) h)
    | false => rw [e] at h; exact List.mem_append_right _ (rootsIn_mem l (i + 1) h)
  | .v _ :: l, i, p, h => List.mem_append_right _ (rootsIn_mem l (i + 1) h)
  | .sl .. :: l, i, p, h => List.mem_append_right _ (rootsIn_mem l (i + 1) h)
  | .nil0 _ :: l, i, p, h => List.mem_append_right _ (rootsIn_mem l (i + 1) h)
  | .bptr .. :: l, i, p, h => List.mem_append_right _ (rootsIn_mem l (i + 1) h)
  | .agg _ :: l, i, p, h => List.mem_append_right _ (rootsIn_mem l (i + 1) h)
  | .tup _ :: l, i, p, h => List.mem_append_right _ (rootsIn_mem l (i + 1) h)
  | .fn .. :: l, i, p, h => List.mem_append_right _ (rootsIn_mem l (i + 1) h)
  | .undef :: l, i, p, h => List.mem_append_right _ (rootsIn_mem l (i + 1) h)
theorem frzNames_mem {md : Nat → Nat} : ∀ (l : List AVal) (i : Nat) {m : Nm}, m ∈ frzNames md i l → m ∈ ftArgs md i l
  | [], i, m, h => by simp [frzNames] at h
  | a :: l, i, m, h => by
    unfold frzNames at h
    have key : m ∈ (bif Nat.beq (md i) 0 then [] else a.names) ∨ m ∈ ftArgs md (i + 1) l := by
      rcases List.mem_append.1 h with h | h
      · left
        cases e : Nat.beq (md i) 1 with
        | true =>
          rw [e] at h
          rw [Nat.eq_of_beq_eq_true e]
          exact mem_lv1 h
        | false => rw [e] at h; simp at h
      · exact .inr (frzNames_mem l (i + 1) h)
    cases a with
    | ptr nm sz q j =>
      unfold ftArgs
      rcases key with k | k
      · cases e : Nat.beq (md i) 0 with
        | true => rw [e] at k; simp at k
        | false => rw [e] at k; simp only [cond_false, AVal.names, AVal.names0, List.mem_singleton] at k; subst k; exact List.mem_cons_self
      · exact List.mem_cons_of_mem _ k
    | _ => exact List.mem_append.2 key
theorem reroot_to : ∀ {rs : List (Nm × Nm)} {m c : Nm}, reroot rs m = .to c → ∃ p ∈ rs, kin p.1 m = true
  | [], m, c, h => by cases h
  | (r, r') :: l, m, c, h => by
    unfold reroot at h
    split at h
    · next p e => exact ⟨_, List.mem_cons_self, by rw [strip_some e]; exact kin_app p r⟩
    · obtain ⟨p, hp, hk⟩ := reroot_to h
      exact ⟨p, List.mem_cons_of_mem _ hp, hk⟩
theorem backGo_to {g : Nat} {on : Nodes} {c m : Nm} : ∀ {rs : List (Nm × Nm)}, backGo g on c rs = .to m → ∃ p ∈ rs, kin p.1 m = true
  | [], h => by cases h
  | (r, r') :: l, h => by
    unfold backGo at h
    split at h
    · next p e =>
      refine ⟨_, List.mem_cons_self, ?_⟩
      cases eo : isObjN (find c on) with
      | true => rw [eo] at h; cases h; exact kin_app p r
      | false =>
        rw [eo] at h
        simp only [cond_false] at h
        split at h
        · cases h
        · next j q => cases h; exact kin_app ((j + 1000 * g) :: q) r
    · obtain ⟨p, hp, hk⟩ := backGo_to h
      exact ⟨p, List.mem_cons_of_mem _ hp, hk⟩
theorem evCall_fr {cx : Cx} {d : Option Tmp} {g : FuncId} {args : List AVal} {K : St → Option X} (h : evCall cx s d g args K = some out) : CFr (Y := Y) d (dstN d ++ ftArgs (cx.md g) 0 args) s K out (fun ts K' => evCall cx ⟨ts, s.nodes⟩ d g args K') := by
  unfold evCall at h
  simp only at h
  obtain ⟨h1, h⟩ := grd_some h
  obtain ⟨o, h, h2⟩ := cx.nat _ _ _ _ _ _ h
  obtain ⟨h3, h⟩ := grd_some h
  rw [fcNs_eq, fc2_eq] at h
  refine ⟨_, _, h, fun ts K' => ?_, fun nm hnm => ?_⟩
  · unfold evCall
    simp only
    rw [h1]
    simp only [grd, cond_true]
    rw [h2]
    rw [h3]
    simp only [cond_true]
    rw [fcNs_eq, fc2_eq]
  · have hroot : ∀ p ∈ rootsIn (cx.md g) 0 args, kin p.1 nm = false := fun p hp => hnm _ (List.mem_append_right _ (rootsIn_mem _ _ hp))
    rw [find_append _ _ (fun p hp e => ?_), find_afterN, find_frzN _ _ (fun hm => ?_)]
    · have := hnm nm (List.mem_append_right _ (frzNames_mem _ _ hm))
      rw [kin_refl] at this; cases this
    · unfold inS
      split
      · rfl
      · cases e : reroot (rootsIn (cx.md g) 0 args) nm with
        | gone => rfl
        | to c => obtain ⟨p, hp, hk⟩ := reroot_to e; rw [hroot p hp] at hk; cases hk
    · obtain ⟨m, n⟩ := p
      cases e
      obtain ⟨c, n0, _, hc, _⟩ := mem_newN.1 hp
      have hb := (newS_to hc).1
      unfold backS at hb
      split at hb
      · next q eq =>
        cases d with
        | none => cases hb
        | some d =>
          cases hb
          have := hnm [d] (by simp [dstN])
          rw [kin_app] at this; cases this
      · obtain ⟨p, hp, hk⟩ := backGo_to hb
        have := hroot p hp
        rw [this] at hk; cases hk
end
end Go.Proofs.YtpgmebpkagbmoaaS
