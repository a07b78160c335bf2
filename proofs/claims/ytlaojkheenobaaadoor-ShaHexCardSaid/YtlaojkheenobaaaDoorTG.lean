/- What an operation's evaluation turns: those that lay blocks, and calls. -/
import Derived.Test.YtlaojkheenobaaaDoorTF
namespace Go.Proofs.YtlaojkheenobaaaDoorS
open Go Go.RowKit
set_option linter.unusedVariables false
set_option linter.unusedSimpArgs false
section
variable {X Y : Type} {T : Tab} {out : X} {s : St}
/-- An evaluation that lays blocks: of the temporaries it turns but its own, of the names but those told. -/
def CFr (d : Option Tmp) (wr : List Nm) (s : St) (K : St → Option X) (out : X) (f : List AVal → (St → Option Y) → Option Y) : Prop :=
  ∃ z ns, K ((⟨s.tmps, ns⟩ : St).put d z) = some out ∧ (∀ ts K', f ts K' = K' ((⟨ts, ns⟩ : St).put d z)) ∧ ∀ nm, (∀ m ∈ wr, kin m nm = false) → find nm ns = find nm s.nodes
theorem strip_append : ∀ (p r : Nm), (strip r (p ++ r)).isSome = true
  | [], r => by cases r <;> simp [strip, nmEq_refl]
  | j :: p, r => by
    show (strip r (j :: (p ++ r))).isSome = true
    unfold strip
    cases e : nmEq (j :: (p ++ r)) r with
    | true => rfl
    | false =>
      have := strip_append p r
      cases e2 : strip r (p ++ r) with
      | none => rw [e2] at this; cases this
      | some q => simp [e2]
theorem strip_some : ∀ {r l p : Nm}, strip r l = some p → l = p ++ r
  | r, [], p, h => by
    unfold strip at h
    cases e : nmEq [] r with
    | true => rw [e] at h; cases h; exact nmEq_iff.1 e
    | false => rw [e] at h; cases h
  | r, j :: l, p, h => by
    unfold strip at h
    cases e : nmEq (j :: l) r with
    | true => rw [e] at h; cases h; exact nmEq_iff.1 e
    | false =>
      rw [e] at h
      simp only [cond_false] at h
      split at h
      · next q e2 => cases h; rw [strip_some e2]; rfl
      · cases h
theorem kin_refl (m : Nm) : kin m m = true := by
  have := strip_append [] m
  simp only [List.nil_append] at this
  simp [kin, this]
theorem kin_app (p r : Nm) : kin r (p ++ r) = true := by simp [kin, strip_append p r]
theorem kin_ne {m nm : Nm} (h : kin m nm = false) : nm ≠ m := fun e => by subst e; rw [kin_refl] at h; cases h
theorem find_cons_ne {m nm : Nm} {n : Node} {l : Nodes} (h : nm ≠ m) : find nm ((m, n) :: l) = find nm l := by simp [find, nmEq_ne h.symm]
theorem find_frzN {nm : Nm} : ∀ (l : List Nm) (ns : Nodes), nm ∉ l → find nm (frzN l ns) = find nm ns
  | [], ns, _ => rfl
  | m :: l, ns, h => by
    simp only [List.mem_cons, not_or] at h
    unfold frzN
    split
    · rw [find_frzN l _ h.2, find_upd_ne h.1]
    · exact find_frzN l ns h.2
theorem new_fr {ts : List AVal} {ns : Nodes} {nm : Nm} {n : Node} (h : find nm ns = none) (K' : St → Option Y) : (⟨ts, ns⟩ : St).new nm n K' = K' ⟨ts, insN (nm, n) ns⟩ := by
  unfold St.new
  simp only [h]
theorem evMakeSlice_fr {d : Option Tmp} {t : Nat} {l c : AVal} {K : St → Option X} (h : evMakeSlice T s d t l c K = some out) : CFr (Y := Y) d (dstN d) s K out (fun ts K' => evMakeSlice T ⟨ts, s.nodes⟩ d t l c K') := by
  unfold evMakeSlice at h
  split at h
  · next d e _ _ _ eq =>
    obtain ⟨l', h, k1⟩ := asI_fr (Y := Y) h
    obtain ⟨c', h, k2⟩ := asI_fr (Y := Y) h
    split at h
    · next z hz =>
      obtain ⟨h1, h⟩ := grd_some h
      obtain ⟨h2, h⟩ := grd_some h
      obtain ⟨h3, h⟩ := grd_some h
      obtain ⟨h4, h⟩ := grd_some h
      obtain ⟨hn, h⟩ := new_some h
      refine ⟨_, _, h, fun ts K' => ?_, fun nm hnm => find_insN_ne (kin_ne (hnm [d] List.mem_cons_self)).symm _⟩
      unfold evMakeSlice
      simp only [eq, k1, k2, hz, h1, h2, h3, h4, grd, cond_true]
      exact new_fr hn _
    · cases h
  · cases h
theorem elemsL_fr {e : Nat} {ns : Nodes} : ∀ (ps : List (Nat × AVal)) (xs : List CV) {K : List CV → Option X}, elemsL T e ns ps xs K = some out → ∃ z, K z = some out ∧ ∀ K' : List CV → Option Y, elemsL T e ns ps xs K' = K' z
  | [], xs, K, h => ⟨xs, h, fun K' => rfl⟩
  | (i, x) :: l, xs, K, h => by
    unfold elemsL at h
    obtain ⟨c, h1, h⟩ := Option.bind_eq_some_iff.1 h
    obtain ⟨h2, h⟩ := grd_some h
    obtain ⟨z, h, k⟩ := elemsL_fr l _ h
    exact ⟨z, h, fun K' => by unfold elemsL; simp only [h1, Option.bind_some, h2, grd, cond_true, k]⟩
theorem mem_lv0 {x : AVal} {m : Nm} (h : m ∈ x.lv0) : m ∈ x.names0 := by cases x <;> simp_all [AVal.lv0, AVal.names0]
theorem mem_lv1 {x : AVal} {m : Nm} (h : m ∈ x.lv1) : m ∈ x.names := by
  cases x with
  | agg cs =>
    simp only [AVal.lv1, AVal.names, List.mem_flatMap] at *
    obtain ⟨c, h1, h2⟩ := h
    exact ⟨c, h1, mem_lv0 h2⟩
  | osl nm sh off len => exact h
  | _ => simp [AVal.lv1, AVal.lv0] at h
theorem evBuildSlice_fr {d : Option Tmp} {t n : Nat} {ps : List (Nat × AVal)} {K : St → Option X} (h : evBuildSlice T s d t n ps K = some out) : CFr (Y := Y) d (dstN d ++ ps.flatMap fun p => p.2.names) s K out (fun ts K' => evBuildSlice T ⟨ts, s.nodes⟩ d t n ps K') := by
  unfold evBuildSlice at h
  split at h
  · next d e _ _ _ eq =>
    split at h
    · next z hz =>
      obtain ⟨h1, h⟩ := grd_some h
      obtain ⟨xs, h, k⟩ := elemsL_fr (Y := Y) _ _ h
      obtain ⟨hn, h⟩ := new_some h
      refine ⟨_, _, h, fun ts K' => ?_, fun nm hnm => ?_⟩
      · unfold evBuildSlice
        simp only [eq, hz, h1, grd, cond_true, k]
        exact new_fr hn _
      · refine (find_insN_ne (kin_ne (hnm [d] (by simp [dstN]))).symm _).trans (find_frzN _ _ fun hm => ?_)
        obtain ⟨p, hp, hm⟩ := List.mem_flatMap.1 hm
        have := hnm nm (List.mem_append_right _ (List.mem_flatMap.2 ⟨p, hp, mem_lv1 hm⟩))
        rw [kin_refl] at this; cases this
    · cases h
  · cases h
theorem rowOf_fr {ns : Nodes} {x : AVal} {K : Option Nat → List CV → Option X} (h : rowOf ns x K = some out) : ∃ sh xs, K sh xs = some out ∧ ∀ K' : Option Nat → List CV → Option Y, rowOf ns x K' = K' sh xs := by
  unfold rowOf at h ⊢
  split at h
  · exact ⟨_, _, h, fun K' => rfl⟩
  · exact ⟨_, _, h, fun K' => rfl⟩
  · exact ⟨_, _, h, fun K' => rfl⟩
  · split at h
    · next e => exact ⟨_, _, h, fun K' => by simp only [e]⟩
    · cases h
  · cases h
theorem srcOf_fr {ns : Nodes} {x : AVal} {K : Option Nat → List CV → Option X} (h : srcOf ns x K = some out) : ∃ sh xs, K sh xs = some out ∧ ∀ K' : Option Nat → List CV → Option Y, srcOf ns x K' = K' sh xs := by
  unfold srcOf at h
  split at h
  · exact ⟨_, _, h, fun K' => rfl⟩
  · next hne =>
    obtain ⟨sh, xs, h, k⟩ := rowOf_fr (Y := Y) h
    refine ⟨sh, xs, h, fun K' => ?_⟩
    unfold srcOf
    split
    · next s => exact absurd rfl (hne s)
    · exact k K'
theorem evAppend_fr {d : Option Tmp} {t tx : Nat} {x y : AVal} {K : St → Option X} (h : evAppend T s d t tx x y K = some out) : CFr (Y := Y) d (dstN d ++ x.names) s K out (fun ts K' => evAppend T ⟨ts, s.nodes⟩ d t tx x y K') := by
  unfold evAppend at h
  split at h
  · next d e _ _ _ eq =>
    obtain ⟨h1, h⟩ := grd_some h
    obtain ⟨sh', ys, h, k⟩ := srcOf_fr (Y := Y) h
    split at h
    · obtain ⟨h2, h⟩ := grd_some h
      obtain ⟨h3, h⟩ := grd_some h
      obtain ⟨hn, h⟩ := new_some h
      refine ⟨_, _, h, fun ts K' => ?_, fun nm hnm => find_insN_ne (kin_ne (hnm [d] (by simp [dstN]))).symm _⟩
      unfold evAppend
      simp only [eq, h1, grd, cond_true, k, h2, h3]
      exact new_fr hn _
    · next nm0 sh off len =>
      split at h
      · next sh0 xs hf =>
        cases eo : ownSrc _ y with
        | true =>
          rw [eo] at h
          obtain ⟨h2, h⟩ := grd_some h
          obtain ⟨h3, h⟩ := grd_some h
          refine ⟨_, _, h, fun ts K' => ?_, fun nm hnm => ?_⟩
          · unfold evAppend
            simp only [eq, h1, grd, cond_true, k, h2, h3, hf, eo]
            rfl
          · refine find_upd_ne (kin_ne (hnm _ ?_)) _
            simp [dstN, AVal.names, AVal.names0]
        | false =>
        rw [eo] at h
        obtain ⟨h2, h⟩ := grd_some h
        obtain ⟨h3, h⟩ := grd_some h
        obtain ⟨hn, h⟩ := new_some h
        refine ⟨_, _, h, fun ts K' => ?_, fun nm hnm => ?_⟩
        · unfold evAppend
          simp only [eq, h1, grd, cond_true, cond_false, k, h2, h3, hf, eo]
          exact new_fr hn _
        · refine (find_insN_ne (kin_ne (hnm [d] (by simp [dstN]))).symm _).trans (find_upd_ne (kin_ne (hnm _ ?_)) _)
          simp [dstN, AVal.names, AVal.names0]
      · cases h
    · cases h
  · cases h
theorem evAppendZ_fr {d : Option Tmp} {t tx : Nat} {x y : AVal} {K : St → Option X} (h : evAppendZ T s d t tx x y K = some out) : CFr (Y := Y) d (dstN d ++ x.names) s K out (fun ts K' => evAppendZ T ⟨ts, s.nodes⟩ d t tx x y K') := by
  unfold evAppendZ at h
  split at h
  · next d e _ _ _ kn _ _ _ sh0 eq eqx =>
    obtain ⟨n, h, k1⟩ := asI_fr (Y := Y) h
    split at h
    · next z hz =>
      obtain ⟨h1, h⟩ := grd_some h
      obtain ⟨h2, h⟩ := grd_some h
      obtain ⟨h3, h⟩ := grd_some h
      obtain ⟨hn, h⟩ := new_some h
      refine ⟨_, _, h, fun ts K' => ?_, fun nm hnm => find_insN_ne (kin_ne (hnm [d] (List.mem_append_left _ List.mem_cons_self))).symm _⟩
      unfold evAppendZ
      simp only [eq, eqx, k1, hz, h1, h2, h3, grd, cond_true]
      exact new_fr hn _
    · cases h
  · cases h
theorem evAppendA_fr {d : Option Tmp} {t tx : Nat} {x y : AVal} {K : St → Option X} (h : evAppendA T s d t tx x y K = some out) : CFr (Y := Y) d (dstN d ++ x.names) s K out (fun ts K' => evAppendA T ⟨ts, s.nodes⟩ d t tx x y K') := by
  unfold evAppendA at h ⊢
  cases e : isIntT T tx with
  | true => rw [e] at h; exact evAppendZ_fr h
  | false => rw [e] at h; exact evAppend_fr h
theorem evClear_fr {d : Option Tmp} {t : Nat} {x : AVal} {K : St → Option X} (h : evClear T s t x (fun s => K (s.put d (.tup []))) = some out) : CFr (Y := Y) d x.names s K out (fun ts K' => evClear T ⟨ts, s.nodes⟩ t x (fun s => K' (s.put d (.tup [])))) := by
  unfold evClear at h
  split at h
  · next e _ _ _ eq =>
    split at h
    · split at h
      · next sh0 xs z hf hz =>
        obtain ⟨h2, h⟩ := grd_some h
        obtain ⟨h3, h⟩ := grd_some h
        refine ⟨_, _, h, fun ts K' => ?_, fun nm hnm => ?_⟩
        · unfold evClear
          simp only [eq, hf, hz, h2, h3, grd, cond_true]
          rfl
        · exact find_upd_ne (kin_ne (hnm _ (by simp [AVal.names, AVal.names0]))) _
      · cases h
    · refine ⟨_, _, h, fun ts K' => ?_, fun nm hnm => rfl⟩
      unfold evClear
      simp only [eq]
    · cases h
  · cases h
theorem alive_upd {nm : Nm} {fz : Bool} {sh : Option Nat} {xs : List CV} {ns : Nodes} (h : aliveN ns nm = true) (m : Nm) : aliveN (upd nm (.row fz sh xs) ns) m = aliveN ns m := by
  by_cases e : m = nm
  · subst e
    rw [h]
    unfold aliveN at h ⊢
    split at h
    · next hf => rw [find_upd_self hf]
    · next hf => rw [find_upd_self hf]
    · cases h
  · unfold aliveN; rw [find_upd_ne e]
theorem alive_frzN (m : Nm) : ∀ (l : List Nm) (ns : Nodes), aliveN (frzN l ns) m = aliveN ns m
  | [], ns => rfl
  | q :: l, ns => by
    unfold frzN
    split
    · next hf => rw [alive_frzN m l, alive_upd (by unfold aliveN; rw [hf])]
    · exact alive_frzN m l ns
theorem putEl_dir {t : Nat} {sh : Option Nat} {xs : List CV} {i j : Nat} {c : CV} {K : List CV → Option X} (h : putEl T t sh xs i j c K = some out) : ∃ ys, K ys = some out ∧ ∀ K' : List CV → Option Y, putEl T t sh xs i j c K' = K' ys := by
  unfold putEl at h
  split at h
  · cases e : isAggT T t with
    | true =>
      rw [e] at h
      obtain ⟨h3, h⟩ := grd_some h
      obtain ⟨h4, h⟩ := grd_some h
      refine ⟨_, h, fun K' => ?_⟩
      unfold putEl
      simp only [e, h3, h4, grd, cond_true]
    | false =>
      rw [e] at h
      obtain ⟨h3, h⟩ := grd_some h
      obtain ⟨h4, h⟩ := grd_some h
      refine ⟨_, h, fun K' => ?_⟩
      unfold putEl
      simp only [e, h3, h4, grd, cond_true, cond_false]
  · next n =>
    cases e : isAggT T t with
    | true =>
      rw [e] at h
      simp only [cond_true] at h
      cases ez : (Nat.beq (sizeT T t) n && Nat.beq j 0) with
      | true =>
        rw [ez] at h
        obtain ⟨h3, h⟩ := grd_some h
        obtain ⟨h4, h⟩ := grd_some h
        refine ⟨_, h, fun K' => ?_⟩
        unfold putEl
        simp only [e, ez, h3, h4, grd, cond_true]
      | false =>
        rw [ez] at h
        obtain ⟨h3, h⟩ := grd_some h
        obtain ⟨y, h4, h⟩ := Option.bind_eq_some_iff.1 h
        split at h
        · obtain ⟨h5, h⟩ := grd_some h
          refine ⟨_, h, fun K' => ?_⟩
          unfold putEl
          simp only [e, ez, h3, h4, h5, grd, cond_true, cond_false, Option.bind_some]
        · cases h
    | false =>
      rw [e] at h
      obtain ⟨h3, h⟩ := grd_some h
      obtain ⟨y, h4, h⟩ := Option.bind_eq_some_iff.1 h
      split at h
      · obtain ⟨h5, h⟩ := grd_some h
        refine ⟨_, h, fun K' => ?_⟩
        unfold putEl
        simp only [e, h3, h4, h5, grd, cond_true, cond_false, Option.bind_some]
      · cases h
theorem evStore_rowG {t : Nat} {nm : Nm} {sz i j : Nat} {x : AVal} {K : St → Option X} {fz0 : Bool} {sh0 : Option Nat} {xs0 : List CV} (hf0 : find nm s.nodes = some (.row fz0 sh0 xs0)) (h : evStore T s t (.ptr nm sz i j) x K = some out) :
    ∃ ns, K ⟨s.tmps, ns⟩ = some out ∧ (∀ ts (K' : St → Option Y), evStore T ⟨ts, s.nodes⟩ t (.ptr nm sz i j) x K' = K' ⟨ts, ns⟩) ∧
      (∀ m, kin nm m = false → (∀ q ∈ x.names, kin q m = false) → find m ns = find m s.nodes) ∧ ∀ m, aliveN ns m = aliveN s.nodes m := by
  unfold evStore at h
  simp only at h
  split at h
  · next cs hf => rw [hf0] at hf; cases hf
  · next sh xs hf =>
    obtain ⟨h1, h⟩ := grd_some h
    obtain ⟨c, h2, h⟩ := Option.bind_eq_some_iff.1 h
    have hal : aliveN (frzN x.lv1 s.nodes) nm = true := by rw [alive_frzN]; unfold aliveN; rw [hf]
    have fin : ∀ (ys : List CV), (∀ m, kin nm m = false → (∀ q ∈ x.names, kin q m = false) → find m (upd nm (.row false sh ys) (frzN x.lv1 s.nodes)) = find m s.nodes) ∧ ∀ m, aliveN (upd nm (.row false sh ys) (frzN x.lv1 s.nodes)) m = aliveN s.nodes m := fun ys =>
      ⟨fun m hm hq => (find_upd_ne (kin_ne hm) _).trans (find_frzN _ _ fun hx => by
        have := hq m (mem_lv1 hx)
        rw [kin_refl] at this; cases this), fun m => (alive_upd hal m).trans (alive_frzN m _ _)⟩
    have red : ∀ ts (K' : St → Option Y), evStore T ⟨ts, s.nodes⟩ t (.ptr nm sz i j) x K' = putEl T t sh xs i j c fun ys => K' ((⟨ts, frzN x.lv1 s.nodes⟩ : St).setN nm (.row false sh ys)) := fun ts K' => by
      unfold evStore
      simp only [hf, h1, h2, grd, cond_true, Option.bind_some]
    obtain ⟨ys, h, k⟩ := putEl_dir (Y := Y) h
    exact ⟨_, h, fun ts K' => (red ts K').trans (k _), (fin _).1, (fin _).2⟩
  · cases h
theorem evStore_row {t : Nat} {nm : Nm} {sz i j : Nat} {x : AVal} {K : St → Option X} (h : evStore T s t (.ptr nm (sz + 1) i j) x K = some out) :
    ∃ ns, K ⟨s.tmps, ns⟩ = some out ∧ (∀ ts (K' : St → Option Y), evStore T ⟨ts, s.nodes⟩ t (.ptr nm (sz + 1) i j) x K' = K' ⟨ts, ns⟩) ∧
      (∀ m, kin nm m = false → (∀ q ∈ x.names, kin q m = false) → find m ns = find m s.nodes) ∧ ∀ m, aliveN ns m = aliveN s.nodes m := by
  cases hf : find nm s.nodes with
  | none => unfold evStore at h; simp only [hf] at h; cases h
  | some n =>
    cases n with
    | row fz sh xs => exact evStore_rowG hf h
    | iter => unfold evStore at h; simp only [hf] at h; cases h
    | dead => unfold evStore at h; simp only [hf] at h; cases h
    | obj cs =>
      unfold evStore at h
      simp only [hf] at h
      obtain ⟨z, h, _, _⟩ := expand_fr (Y := Y) h
      obtain ⟨h1, h⟩ := grd_some h
      simp only [Bool.and_eq_true] at h1
      have := h1.1.1.1.2
      cases this
theorem evCopy_fr {d : Option Tmp} {t tx : Nat} {x y : AVal} {K : St → Option X} (h : evCopy T s t tx x y (fun s v => K (s.put d v)) = some out) : CFr (Y := Y) d x.names s K out (fun ts K' => evCopy T ⟨ts, s.nodes⟩ t tx x y (fun s v => K' (s.put d v))) := by
  unfold evCopy at h
  split at h
  · next e _ _ _ eq =>
    obtain ⟨h1, h⟩ := grd_some h
    obtain ⟨sh', ys, h, k⟩ := srcOf_fr (Y := Y) h
    split at h
    · split at h
      · next sh0 xs hf =>
        obtain ⟨h2, h⟩ := grd_some h
        obtain ⟨h3, h⟩ := grd_some h
        refine ⟨_, _, h, fun ts K' => ?_, fun nm hnm => ?_⟩
        · unfold evCopy
          simp only [eq, h1, k, hf, h2, h3, grd, cond_true]
          rfl
        · exact find_upd_ne (kin_ne (hnm _ (by simp [AVal.names, AVal.names0]))) _
      · cases h
    · obtain ⟨h2, h⟩ := grd_some h
      refine ⟨_, _, h, fun ts K' => ?_, fun nm hnm => rfl⟩
      unfold evCopy
      simp only [eq, h1, k, h2, grd, cond_true]
    · cases h
  · cases h
/-- The nodes that a variable of soft cells brings. -/
def boxA (d : Nat) (us : List AVal) : Nodes := nilNodes [d] 0 us ++ [([d], .obj (splice (us.map fun _ => .undef) 0 (nilCells [d] 0 us)))]
/-- Nodes of a variable's own. -/
structure Own (d : Nat) (A : Nodes) : Prop where
  suf : ∀ p ∈ A, ∃ q, p.1 = q ++ [d]
  gen : genOf A = 0
  nd : (A.map (·.1)).Nodup
theorem genOf_append : ∀ a b : Nodes, genOf (a ++ b) = max (genOf a) (genOf b)
  | [], b => by simp [genOf]
  | (m, n) :: a, b => by
    cases m with
    | nil => exact genOf_append a b
    | cons j m => cases m with
      | nil => exact genOf_append a b
      | cons k q =>
        show max (j / 1000) (genOf (a ++ b)) = max (max (j / 1000) (genOf a)) (genOf b)
        rw [genOf_append a b, Nat.max_assoc]
theorem genOf_nil (d : Nat) : ∀ (us : List AVal) (j : Nat), j + us.length ≤ 1000 → genOf (nilNodes [d] j us) = 0
  | [], j, h => rfl
  | u :: us, j, h => by
    rw [List.length_cons] at h
    have hr := genOf_nil d us (j + 1) (by omega)
    cases u <;> first
      | exact hr
      | (show max (j / 1000) (genOf (nilNodes [d] (j + 1) us)) = 0
         rw [hr, Nat.div_eq_of_lt (by omega)]; rfl)
theorem find_cons_self {nm : Nm} {n : Node} {l : Nodes} : find nm ((nm, n) :: l) = some n := by simp [find, nmEq_refl]
/-- An evaluation that lays nodes of its own ahead of those that are. -/
def SFr (d : Option Tmp) (s : St) (K : St → Option X) (out : X) (f : St → (St → Option Y) → Option Y) : Prop :=
  ∃ d0 A z, d = some d0 ∧ Own d0 A ∧ (∀ p ∈ A, find p.1 s.nodes = none) ∧ K ((⟨s.tmps, insA A s.nodes⟩ : St).put d z) = some out ∧
    ∀ s' : St, (∀ p ∈ A, find p.1 s'.nodes = none) → ∀ K', f s' K' = K' ((⟨s'.tmps, insA A s'.nodes⟩ : St).put d z)
theorem evBox0_sfr {d : Option Tmp} {t : Nat} {x : AVal} {K : St → Option X} (h : evBox0 T s d t x K = some out) (hu : (resize T t x).cells.all soft0 = true) : SFr (Y := Y) d s K out (fun s' K' => evBox0 T s' d t x K') := by
  unfold evBox0 at h
  split at h
  · cases h
  · next d =>
    obtain ⟨h1, h⟩ := grd_some h
    obtain ⟨hn, h⟩ := new_some h
    rw [hu] at h
    simp only [cond_true] at h
    unfold St.lay2 at h
    simp only [find_insN_self hn] at h
    obtain ⟨h2, h⟩ := grd_some h
    have h2' := h2
    simp only [Bool.and_eq_true, List.all_eq_true] at h2'
    obtain ⟨⟨⟨g1, g2⟩, g3⟩, g4⟩ := h2'
    have hlen := h1
    simp only [Bool.and_eq_true] at hlen
    have hlen := Nat.le_of_ble_eq_true hlen.2
    have hne : ∀ p ∈ nilNodes [d] 0 (resize T t x).cells, p.1 ≠ [d] := fun p hp e => by
      obtain ⟨q, hq⟩ := nilNodes_ne _ _ _ p hp
      exact cons_ne_self q [d] (hq.symm.trans e)
    have e : ∀ l : Nodes, find [d] l = none → insA (nilNodes [d] 0 (resize T t x).cells) (upd [d] (.obj (splice ((resize T t x).cells.map fun _ => .undef) 0 (nilCells [d] 0 (resize T t x).cells))) (insN ([d], .obj ((resize T t x).cells.map fun _ => .undef)) l)) = insA (boxA d (resize T t x).cells) l := fun l hl => by
      rw [upd_insN_self hl]
      unfold boxA
      rw [insA_append]
      rfl
    rw [e _ hn] at h
    refine ⟨d, boxA d (resize T t x).cells, .ptr [d] 0 0 0, rfl, ⟨fun p hp => ?_, ?_, ?_⟩, fun p hp => ?_, h, fun s' hs' K' => ?_⟩
    · rcases List.mem_append.1 hp with hp | hp
      · obtain ⟨q, hq⟩ := nilNodes_ne _ _ _ p hp
        exact ⟨[q], hq⟩
      · rw [List.mem_singleton] at hp; exact ⟨[], by rw [hp]; rfl⟩
    · unfold boxA
      rw [genOf_append, genOf_nil d _ 0 (by omega)]
      rfl
    · unfold boxA
      rw [List.map_append, List.nodup_append]
      refine ⟨nodupN_iff.1 g4, by simp, fun a ha b hb e => ?_⟩
      obtain ⟨p, hp, rfl⟩ := List.mem_map.1 ha
      rw [List.map_cons, List.map_nil, List.mem_singleton] at hb
      exact hne p hp (e.trans hb)
    · rcases List.mem_append.1 hp with hp | hp
      · have := (g3 p hp).1.1
        rw [find_insN_ne (hne p hp).symm] at this
        cases e : find p.1 s.nodes with
        | none => rfl
        | some n => rw [e] at this; cases this
      · rw [List.mem_singleton] at hp; rw [hp]; exact hn
    · have hd : find [d] s'.nodes = none := hs' ([d], _) (List.mem_append_right _ (List.mem_singleton.2 rfl))
      unfold evBox0
      simp only [h1, grd, cond_true, hu]
      rw [show s'.new [d] (.obj ((resize T t x).cells.map fun _ => AVal.undef)) = (⟨s'.tmps, s'.nodes⟩ : St).new [d] (.obj ((resize T t x).cells.map fun _ => AVal.undef)) from rfl, new_fr hd]
      unfold St.lay2
      simp only [find_insN_self hd]
      have hc : (Nat.ble (0 + (resize T t x).cells.length) ((resize T t x).cells.map fun _ => AVal.undef).length && (resize T t x).cells.all canSt && (nilNodes [d] 0 (resize T t x).cells).all (fun p => noneN (find p.1 (insN ([d], .obj ((resize T t x).cells.map fun _ => .undef)) s'.nodes)) && rowSz p.2 && okNm p.1) && nodupN ((nilNodes [d] 0 (resize T t x).cells).map (·.1))) = true := by
        simp only [Bool.and_eq_true, List.all_eq_true]
        refine ⟨⟨⟨g1, g2⟩, fun p hp => ⟨⟨?_, (g3 p hp).1.2⟩, (g3 p hp).2⟩⟩, g4⟩
        rw [find_insN_ne (hne p hp).symm, hs' p (List.mem_append_left _ hp)]
        rfl
      rw [hc]
      simp only [grd, cond_true]
      rw [e _ hd]
theorem soft_resize {t : Nat} {us : List AVal} (h : us.all soft0 = true) : (resize T t (.agg us)).cells.all soft0 = true := h
theorem evBoxF_sfr {d : Option Tmp} {t : Nat} {x : AVal} {K : St → Option X} (h : evBoxF T s d t x K = some out) : SFr (Y := Y) d s K out (fun s' K' => evBoxF T s' d t x K') := by
  unfold evBoxF at h
  split at h
  · next d c =>
    obtain ⟨h1, h⟩ := grd_some h
    obtain ⟨hn, h⟩ := new_some h
    refine ⟨d, [([d], .row false none c.cells)], _, rfl, ⟨fun p hp => by rw [List.mem_singleton] at hp; exact ⟨[], by rw [hp]; rfl⟩, rfl, by simp⟩, fun p hp => by rw [List.mem_singleton] at hp; rw [hp]; exact hn, h, fun s' hs' K' => ?_⟩
    unfold evBoxF
    simp only [h1, grd, cond_true]
    exact new_fr (ts := s'.tmps) (hs' _ List.mem_cons_self) _
  · cases h
theorem evBox_sfr {d : Option Tmp} {t : Nat} {x : AVal} {K : St → Option X} (h : evBox T s d t x K = some out) (hu : (resize T t x).cells.all soft0 = true) : SFr (Y := Y) d s K out (fun s' K' => evBox T s' d t x K') := by
  unfold evBox at h ⊢
  cases e : flatT T t with
  | true => rw [e] at h; exact evBoxF_sfr h
  | false =>
  rw [e] at h
  simp only [cond_false] at h ⊢
  obtain ⟨z, h1, hz, k⟩ := expand_fr (Y := Y) h
  have hu' : (resize T t z).cells.all soft0 = true := by
    rcases hz with rfl | ⟨us, rfl, hs⟩
    · exact hu
    · exact soft_resize hs
  obtain ⟨d0, A, y, g1, g2, g3, g4, g5⟩ := evBox0_sfr (Y := Y) h1 hu'
  exact ⟨d0, A, y, g1, g2, g3, g4, fun s' hs' K' => (k _).trans (g5 s' hs' K')⟩
theorem closed0_congr {ns ns' : Nodes} {a : AVal} (h : a.names0 = []) : closed0 ns' a = closed0 ns a := by
  cases a with
  | osl nm sh off len => cases h
  | sl p sh xs => cases p <;> rfl
  | _ => rfl
theorem closedL_congr {ns ns' : Nodes} : ∀ {l : List AVal}, l.flatMap AVal.names0 = [] → closedL ns' l = closedL ns l
  | [], _ => rfl
  | a :: l, h => by
    rw [List.flatMap_cons, List.append_eq_nil_iff] at h
    unfold closedL
    rw [closed0_congr (ns := ns) h.1, closedL_congr (ns := ns) h.2]
theorem closed_congr {ns ns' : Nodes} {a : AVal} (h : a.names = []) : closed ns' a = closed ns a := by
  cases a with
  | agg cs =>
    have e : closedL ns' cs = closedL ns cs := closedL_congr h
    show (match closedL ns' cs with | some ds => some (CV.agg ds) | none => none) = (match closedL ns cs with | some ds => some (CV.agg ds) | none => none)
    rw [e]
  | osl nm sh off len => cases h
  | sl p sh xs => cases p <;> rfl
  | _ => rfl
theorem elemsL_congr {e : Nat} {ns ns' : Nodes} : ∀ (ps : List (Nat × AVal)) (xs : List CV) (K : List CV → Option X), (∀ p ∈ ps, (resize T e p.2).names = []) → elemsL T e ns' ps xs K = elemsL T e ns ps xs K
  | [], xs, K, _ => rfl
  | (i, x) :: l, xs, K, h => by
    unfold elemsL
    rw [closed_congr (ns := ns) (h (i, x) List.mem_cons_self)]
    congr 1
    funext c
    rw [elemsL_congr l _ K fun p hp => h p (List.mem_cons_of_mem _ hp)]
theorem one_own {d : Nat} {n : Node} : Own d [([d], n)] := ⟨fun p hp => by rw [List.mem_singleton] at hp; exact ⟨[], by rw [hp]; rfl⟩, rfl, by simp⟩
theorem evMakeSlice_sfr {d : Option Tmp} {t : Nat} {l c : AVal} {K : St → Option X} (h : evMakeSlice T s d t l c K = some out) (hu : softP T t [] = true) : SFr (Y := Y) d s K out (fun s' K' => evMakeSlice T s' d t l c K') := by
  unfold evMakeSlice at h
  split at h
  · next d e _ _ _ eq =>
    unfold softP at hu
    simp only [eq, List.all_nil, Bool.and_true, List.isEmpty_iff] at hu
    obtain ⟨l', h, k1⟩ := asI_fr (Y := Y) h
    obtain ⟨c', h, k2⟩ := asI_fr (Y := Y) h
    split at h
    · next z hz =>
      obtain ⟨h1, h⟩ := grd_some h
      obtain ⟨h2, h⟩ := grd_some h
      obtain ⟨h3, h⟩ := grd_some h
      obtain ⟨h4, h⟩ := grd_some h
      obtain ⟨hn, h⟩ := new_some h
      refine ⟨d, [([d], .row false (shOf T e) (List.replicate l'.toNat z))], _, rfl, one_own, fun p hp => by rw [List.mem_singleton] at hp; rw [hp]; exact hn, h, fun s' hs' K' => ?_⟩
      have hz' : closed s'.nodes (zeroT T e) = some z := (closed_congr hu).trans hz
      unfold evMakeSlice
      simp only [eq, k1, k2, hz', h1, h2, h3, h4, grd, cond_true]
      exact new_fr (ts := s'.tmps) (hs' _ List.mem_cons_self) _
    · cases h
  · cases h
theorem lv1_nil {x : AVal} (h : x.names = []) : x.lv1 = [] := by
  cases e : x.lv1 with
  | nil => rfl
  | cons m l =>
    have : m ∈ x.names := mem_lv1 (by rw [e]; exact List.mem_cons_self)
    rw [h] at this; cases this
theorem evBuildSlice_sfr {d : Option Tmp} {t n : Nat} {ps : List (Nat × AVal)} {K : St → Option X} (h : evBuildSlice T s d t n ps K = some out) (hu : softP T t (ps.map (·.2)) = true) : SFr (Y := Y) d s K out (fun s' K' => evBuildSlice T s' d t n ps K') := by
  unfold evBuildSlice at h
  split at h
  · next d e _ _ _ eq =>
    unfold softP at hu
    simp only [eq, Bool.and_eq_true, List.isEmpty_iff, List.all_eq_true, List.mem_map, forall_exists_index, and_imp, forall_apply_eq_imp_iff₂] at hu
    split at h
    · next z hz =>
      obtain ⟨h1, h⟩ := grd_some h
      obtain ⟨xs, h, k⟩ := elemsL_fr (Y := Y) _ _ h
      obtain ⟨hn, h⟩ := new_some h
      have hl : ps.flatMap (fun p => p.2.lv1) = [] := by
        rw [List.flatMap_eq_nil_iff]
        exact fun p hp => lv1_nil (hu.2 p hp).1
      rw [hl] at h hn
      refine ⟨d, [([d], .row false (shOf T e) xs)], _, rfl, one_own, fun p hp => by rw [List.mem_singleton] at hp; rw [hp]; exact hn, h, fun s' hs' K' => ?_⟩
      have hz' : closed s'.nodes (zeroT T e) = some z := (closed_congr hu.1).trans hz
      unfold evBuildSlice
      simp only [eq, hz', h1, grd, cond_true]
      rw [elemsL_congr (ns := s.nodes) ps _ _ (fun p hp => (hu.2 p hp).2), k, hl]
      exact new_fr (ts := s'.tmps) (hs' _ List.mem_cons_self) _
    · cases h
  · cases h
theorem find_own {d0 : Nat} {A ns : Nodes} (hA : Own d0 A) {m : Nm} (hm : kin [d0] m = false) : find m (insA A ns) = find m ns :=
  find_insA _ _ (fun p hp e => by
    obtain ⟨q, hq⟩ := hA.suf p hp
    rw [← e, hq, kin_app] at hm; cases hm)
theorem SFr.cfr {d : Option Tmp} {K : St → Option X} {f : St → (St → Option Y) → Option Y} (h : SFr d s K out f) : CFr d (dstN d) s K out (fun ts K' => f ⟨ts, s.nodes⟩ K') := by
  obtain ⟨d0, A, z, rfl, hA, h1, h2, h3⟩ := h
  exact ⟨z, insA A s.nodes, h2, fun ts K' => h3 ⟨ts, s.nodes⟩ h1 K', fun nm hnm => find_own hA (hnm [d0] List.mem_cons_self)⟩
theorem evBox_fr {d : Option Tmp} {t : Nat} {x : AVal} {K : St → Option X} (h : evBox T s d t x K = some out) (hu : (resize T t x).cells.all soft0 = true) : CFr (Y := Y) d (dstN d) s K out (fun ts K' => evBox T ⟨ts, s.nodes⟩ d t x K') := (evBox_sfr h hu).cfr
theorem find_afterN {σ bv : Nm → Sb} {on : Nodes} {m : Nm} (h : σ m = .gone) : ∀ ns : Nodes, find m (afterN σ bv on ns) = find m ns
  | [] => rfl
  | (q, n) :: l => by
    unfold afterN find
    cases e : nmEq q m with
    | true =>
      have e' := nmEq_iff.1 e
      subst e'
      simp only [cond_true, after1, h]
    | false => simp only [cond_false]; exact find_afterN h l
theorem rootsIn_mem {md : Nat → Nat} : ∀ (l : List AVal) (i : Nat) {p : Nm × Nm}, p ∈ rootsIn md i l → p.1 ∈ ftArgs md i l
  | [], i, p, h => by simp [rootsIn] at h
  | .ptr nm sz q j :: l, i, p, h => by
    unfold rootsIn at h
    unfold ftArgs
    rcases List.mem_cons.1 h with rfl | h
    · exact List.mem_cons_self
    · exact List.mem_cons_of_mem _ (List.mem_append_right _ (rootsIn_mem l (i + 1) h))
  | .osl nm sh off len :: l, i, p, h => by
    unfold rootsIn at h
    unfold ftArgs
    cases e : Nat.beq (md i) 2 with
    | true =>
      rw [e] at h
      have e := Nat.eq_of_beq_eq_true e
      rcases List.mem_cons.1 h with rfl | h
      · rw [e]; exact List.mem_append_left _ List.mem_cons_self
      · exact List.mem_append_right _ (rootsIn_mem l (i + 1) h)
    | false => rw [e] at h; exact List.mem_append_right _ (rootsIn_mem l (i + 1) h)
  | .v _ :: l, i, p, h => List.mem_append_right _ (rootsIn_mem l (i + 1) h)
  | .sl .. :: l, i, p, h => List.mem_append_right _ (rootsIn_mem l (i + 1) h)
  | .nil0 _ :: l, i, p, h => List.mem_append_right _ (rootsIn_mem l (i + 1) h)
  | .bptr .. :: l, i, p, h => List.mem_append_right _ (rootsIn_mem l (i + 1) h)
  | .agg _ :: l, i, p, h => List.mem_append_right _ (rootsIn_mem l (i + 1) h)
  | .tup _ :: l, i, p, h => List.mem_append_right _ (rootsIn_mem l (i + 1) h)
  | .fn .. :: l, i, p, h => List.mem_append_right _ (rootsIn_mem l (i + 1) h)
  | .undef :: l, i, p, h => List.mem_append_right _ (rootsIn_mem l (i + 1) h)
theorem frzNames_mem {md : Nat → Nat} : ∀ (l : List AVal) (i : Nat) {m : Nm}, m ∈ frzNames md i l → m ∈ ftArgs md i l
  | [], i, m, h => by simp [frzNames] at h
  | a :: l, i, m, h => by
    unfold frzNames at h
    have key : m ∈ (bif Nat.beq (md i) 0 then [] else a.names) ∨ m ∈ ftArgs md (i + 1) l := by
      rcases List.mem_append.1 h with h | h
      · left
        cases e : Nat.beq (md i) 1 with
        | true =>
          rw [e] at h
          rw [Nat.eq_of_beq_eq_true e]
          exact mem_lv1 h
        | false => rw [e] at h; simp at h
      · exact .inr (frzNames_mem l (i + 1) h)
    cases a with
    | ptr nm sz q j =>
      unfold ftArgs
      rcases key with k | k
      · cases e : Nat.beq (md i) 0 with
        | true => rw [e] at k; simp at k
        | false => rw [e] at k; simp only [cond_false, AVal.names, AVal.names0, List.mem_singleton] at k; subst k; exact List.mem_cons_self
      · exact List.mem_cons_of_mem _ (List.mem_append_right _ k)
    | _ => exact List.mem_append.2 key
theorem strip_nil : ∀ m : Nm, (strip [] m).isSome = true
  | [] => rfl
  | j :: l => by
    have ih := strip_nil l
    unfold strip
    cases e : nmEq (j :: l) [] with
    | true => rfl
    | false =>
      simp only [cond_false]
      cases h : strip [] l with
      | none => rw [h] at ih; cases ih
      | some p => rfl
theorem kin_nil (m : Nm) : kin [] m = true := by unfold kin; rw [strip_nil]; rfl
theorem kin_nil' (m : Nm) : kin m [] = true := by unfold kin; rw [strip_nil]; simp
theorem kid_nil {md : Nat → Nat} {ns : Nodes} : ∀ (l : List AVal) (i : Nat), ([] : Nm) ∉ ftArgs md i l → kidR md ns i l = []
  | [], i, h => rfl
  | .ptr nm sz q j :: l, i, h => by
    unfold ftArgs at h
    unfold kidR
    cases e : Nat.beq (md i) 3 with
    | true => rw [e] at h; exact absurd (List.mem_cons_of_mem _ (List.mem_append_left _ List.mem_cons_self)) h
    | false =>
      rw [kid_nil l (i + 1) fun k => h (List.mem_cons_of_mem _ (List.mem_append_right _ k))]
      rfl
  | .osl nm sh off len :: l, i, h => kid_nil l (i + 1) fun k => h (List.mem_append_right _ k)
  | .v _ :: l, i, h => kid_nil l (i + 1) fun k => h (List.mem_append_right _ k)
  | .sl .. :: l, i, h => kid_nil l (i + 1) fun k => h (List.mem_append_right _ k)
  | .nil0 _ :: l, i, h => kid_nil l (i + 1) fun k => h (List.mem_append_right _ k)
  | .bptr .. :: l, i, h => kid_nil l (i + 1) fun k => h (List.mem_append_right _ k)
  | .agg _ :: l, i, h => kid_nil l (i + 1) fun k => h (List.mem_append_right _ k)
  | .tup _ :: l, i, h => kid_nil l (i + 1) fun k => h (List.mem_append_right _ k)
  | .fn .. :: l, i, h => kid_nil l (i + 1) fun k => h (List.mem_append_right _ k)
  | .undef :: l, i, h => kid_nil l (i + 1) fun k => h (List.mem_append_right _ k)
theorem kidQ_of {md : Nat → Nat} : ∀ (l : List AVal) (i : Nat), ([] : Nm) ∉ ftArgs md i l → kidQ md i l = true
  | [], i, h => rfl
  | .ptr nm sz q j :: l, i, h => by
    unfold ftArgs at h
    unfold kidQ
    cases e : Nat.beq (md i) 3 with
    | true => rw [e] at h; exact absurd (List.mem_cons_of_mem _ (List.mem_append_left _ List.mem_cons_self)) h
    | false =>
      rw [kidQ_of l (i + 1) fun k => h (List.mem_cons_of_mem _ (List.mem_append_right _ k))]
      rfl
  | .osl nm sh off len :: l, i, h => kidQ_of l (i + 1) fun k => h (List.mem_append_right _ k)
  | .v _ :: l, i, h => kidQ_of l (i + 1) fun k => h (List.mem_append_right _ k)
  | .sl .. :: l, i, h => kidQ_of l (i + 1) fun k => h (List.mem_append_right _ k)
  | .nil0 _ :: l, i, h => kidQ_of l (i + 1) fun k => h (List.mem_append_right _ k)
  | .bptr .. :: l, i, h => kidQ_of l (i + 1) fun k => h (List.mem_append_right _ k)
  | .agg _ :: l, i, h => kidQ_of l (i + 1) fun k => h (List.mem_append_right _ k)
  | .tup _ :: l, i, h => kidQ_of l (i + 1) fun k => h (List.mem_append_right _ k)
  | .fn .. :: l, i, h => kidQ_of l (i + 1) fun k => h (List.mem_append_right _ k)
  | .undef :: l, i, h => kidQ_of l (i + 1) fun k => h (List.mem_append_right _ k)
theorem thr_no {md : Nat → Nat} {l : List AVal} (h : ([] : Nm) ∉ ftArgs md 0 l) : thr md l = false := by unfold thr; rw [kidQ_of l 0 h]; rfl
theorem thr_yes {md : Nat → Nat} : ∀ (l : List AVal) (i : Nat), ([] : Nm) ∈ ftArgs md i l → (∀ a ∈ l, ([] : Nm) ∉ a.names) → kidQ md i l = false
  | [], i, h, _ => by simp [ftArgs] at h
  | a :: l, i, h, hn => by
    have ih := thr_yes (md := md) l (i + 1)
    have hl : ∀ a ∈ l, ([] : Nm) ∉ a.names := fun b hb => hn b (List.mem_cons_of_mem _ hb)
    have ha := hn a List.mem_cons_self
    cases a with
    | ptr nm sz q j =>
      unfold ftArgs at h
      unfold kidQ
      cases e : Nat.beq (md i) 3 with
      | true => rfl
      | false =>
        rw [e] at h
        rcases List.mem_cons.1 h with h | h
        · subst h; exact absurd List.mem_cons_self ha
        · rw [ih h hl]; rfl
    | _ =>
      rcases List.mem_append.1 h with h | h
      · cases e : Nat.beq (md i) 0 with
        | true => rw [e] at h; cases h
        | false => rw [e] at h; exact absurd h ha
      · exact ih h hl
theorem okNew_no {old new nn : Nodes} : okNew false old new nn = nn.all (fun p => okNm p.1) := by unfold okNew; simp
theorem rootsK_nil {md : Nat → Nat} {ns : Nodes} {l : List AVal} (h : ([] : Nm) ∉ ftArgs md 0 l) : rootsK md ns l = rootsIn md 0 l := by
  unfold rootsK
  rw [kid_nil l 0 h, List.append_nil]
theorem reroot_to : ∀ {rs : List (Nm × Nm)} {m c : Nm}, reroot rs m = .to c → ∃ p ∈ rs, kin p.1 m = true
  | [], m, c, h => by cases h
  | (r, r') :: l, m, c, h => by
    unfold reroot at h
    split at h
    · next p e => exact ⟨_, List.mem_cons_self, by rw [strip_some e]; exact kin_app p r⟩
    · obtain ⟨p, hp, hk⟩ := reroot_to h
      exact ⟨p, List.mem_cons_of_mem _ hp, hk⟩
theorem backGo_to {g : Nat} {on : Nodes} {c m : Nm} : ∀ {rs : List (Nm × Nm)}, backGo g on c rs = .to m → ∃ p ∈ rs, kin p.1 m = true
  | [], h => by cases h
  | (r, r') :: l, h => by
    unfold backGo at h
    split at h
    · next p e =>
      refine ⟨_, List.mem_cons_self, ?_⟩
      cases eo : isObjN (find c on) with
      | true => rw [eo] at h; cases h; exact kin_app p r
      | false =>
        rw [eo] at h
        simp only [cond_false] at h
        split at h
        · cases h
        · next j q => cases h; exact kin_app ((j + 1000 * g) :: q) r
    · obtain ⟨p, hp, hk⟩ := backGo_to h
      exact ⟨p, List.mem_cons_of_mem _ hp, hk⟩
theorem find_front {nm : Nm} : ∀ (l m : Nodes), (∀ p ∈ m, p.1 ≠ nm) → find nm (l ++ m) = find nm l
  | [], m, h => by
    show find nm m = none
    cases e : find nm m with
    | none => rfl
    | some n => exact absurd rfl (h _ (find_mem e))
  | (q, n) :: l, m, h => by
    show find nm ((q, n) :: (l ++ m)) = _
    unfold find
    rw [find_front l m h]
theorem evCall_fr {cx : Cx} {d : Option Tmp} {g : FuncId} {args : List AVal} {K : St → Option X} (h : evCall cx s d g args K = some out) : CFr (Y := Y) d (dstN d ++ ftArgs (cx.md g) 0 args) s K out (fun ts K' => evCall cx ⟨ts, s.nodes⟩ d g args K') := by
  unfold evCall at h
  simp only at h
  obtain ⟨h1, h⟩ := grd_some h
  obtain ⟨o, h, h2⟩ := cx.nat _ _ _ _ _ _ h
  obtain ⟨h3, h⟩ := grd_some h
  rw [fcNs_eq, fc2_eq] at h
  refine ⟨_, _, h, fun ts K' => ?_, fun nm hnm => ?_⟩
  · unfold evCall
    simp only
    rw [h1]
    simp only [grd, cond_true]
    rw [h2]
    rw [h3]
    simp only [cond_true]
    rw [fcNs_eq, fc2_eq]
  · have hroot : ∀ p ∈ rootsIn (cx.md g) 0 args, kin p.1 nm = false := fun p hp => hnm _ (List.mem_append_right _ (rootsIn_mem _ _ hp))
    have hno : ([] : Nm) ∉ ftArgs (cx.md g) 0 args := fun hm => by
      have := hnm [] (List.mem_append_right _ hm)
      rw [kin_nil] at this; cases this
    simp only [rootsK_nil hno]
    rw [find_insA _ _ (fun p hp e => ?_), find_afterN, find_frzN _ _ (fun hm => ?_)]
    · have := hnm nm (List.mem_append_right _ (frzNames_mem _ _ hm))
      rw [kin_refl] at this; cases this
    · unfold inS
      split
      · rfl
      · cases e : reroot (rootsIn (cx.md g) 0 args) nm with
        | gone => rfl
        | to c => obtain ⟨p, hp, hk⟩ := reroot_to e; rw [hroot p hp] at hk; cases hk
    · obtain ⟨m, n⟩ := p
      cases e
      obtain ⟨c, n0, _, hc, _⟩ := mem_newN.1 hp
      have hb := (newS_to hc).1
      unfold backR at hb
      split at hb
      · cases hb
      unfold backS at hb
      split at hb
      · next q eq =>
        cases d with
        | none => cases hb
        | some d =>
          cases hb
          have := hnm [d] (by simp [dstN])
          rw [kin_app] at this; cases this
      · obtain ⟨p, hp, hk⟩ := backGo_to hb
        have := hroot p hp
        rw [this] at hk; cases hk
/-- A call, with nodes ahead that it does not know. -/
def callF (cx : Cx) (ts : List AVal) (A ns : Nodes) (d : Option Tmp) (g : FuncId) (args : List AVal) (K : St → Option X) : Option X :=
  let N0 := ns
  let s : Nodes := frzN (frzNames (cx.md g) 0 args) ns
  let rs := rootsK (cx.md g) s args
  let σ := inS rs s
  let as := (lendAll (cx.md g) rs s 0 args).map (·.ren σ)
  let ns := sortN (renN σ s)
  grd (nodupN (ns.map (·.1)) && ns.all (fun p => Nat.ble 1000 (p.1.getLastD 0) && Nat.blt (p.1.getLastD 0) 2000)) (cx.C X g as ns fun o =>
    let back := backR rs d (genOf s + 1) o.nodes
    let bv := backV σ back s o.nodes
    let nn := newN back bv s o.nodes
    let nodes := insA A (insA nn (afterN σ bv o.nodes s))
    grd (nodupN (nodes.map (·.1)) && smallObj nn && okNew (thr (cx.md g) args) N0 nodes nn) (fcNs nodes fun nodes => fc2 (o.rv.ren bv) fun rv => K ((⟨ts, nodes⟩ : St).put d rv)))
theorem suffix_kin {d0 : Nat} {r : Nm} (h : kin [d0] r = false) (p q : Nm) : p ++ r ≠ q ++ [d0] := fun e => by
  rcases List.eq_nil_or_concat r with rfl | ⟨r', x, rfl⟩
  · simp [kin, strip, nmEq] at h
  · have hx : x = d0 := by
      have := congrArg List.getLast? e
      simpa using this
    subst hx
    have := kin_app r' [x]
    simp only [List.concat_eq_append] at h
    rw [h] at this; cases this
theorem upd_insA {nm : Nm} {X : Node} : ∀ (A l : Nodes), (∀ p ∈ A, p.1 ≠ nm) → upd nm X (insA A l) = insA A (upd nm X l)
  | [], l, _ => rfl
  | p :: A, l, h => by
    show upd nm X (insN p (insA A l)) = insN p (insA A (upd nm X l))
    rw [upd_insN_ne (h p List.mem_cons_self), upd_insA A l fun q hq => h q (List.mem_cons_of_mem _ hq)]
theorem frzN_app {A : Nodes} : ∀ (l : List Nm) (ns : Nodes), (∀ m ∈ l, ∀ p ∈ A, p.1 ≠ m) → frzN l (insA A ns) = insA A (frzN l ns)
  | [], ns, h => rfl
  | m :: l, ns, h => by
    have h1 := h m List.mem_cons_self
    have h2 : ∀ m ∈ l, ∀ p ∈ A, p.1 ≠ m := fun m hm => h m (List.mem_cons_of_mem _ hm)
    unfold frzN
    rw [find_insA _ _ h1]
    split
    · rw [upd_insA _ _ h1, frzN_app l _ h2]
    · exact frzN_app l ns h2
theorem reroot_suf : ∀ {rs : List (Nm × Nm)} {m c : Nm}, reroot rs m = .to c → ∃ p ∈ rs, ∃ q, m = q ++ p.1
  | [], m, c, h => by cases h
  | (r, r') :: l, m, c, h => by
    unfold reroot at h
    split at h
    · next p e => exact ⟨_, List.mem_cons_self, p, strip_some e⟩
    · obtain ⟨p, hp, hk⟩ := reroot_suf h
      exact ⟨p, List.mem_cons_of_mem _ hp, hk⟩
theorem backGo_suf {g : Nat} {on : Nodes} {c m : Nm} : ∀ {rs : List (Nm × Nm)}, backGo g on c rs = .to m → ∃ p ∈ rs, ∃ q, m = q ++ p.1
  | [], h => by cases h
  | (r, r') :: l, h => by
    unfold backGo at h
    split at h
    · next p e =>
      refine ⟨_, List.mem_cons_self, ?_⟩
      cases eo : isObjN (find c on) with
      | true => rw [eo] at h; cases h; exact ⟨p, rfl⟩
      | false =>
        rw [eo] at h
        simp only [cond_false] at h
        split at h
        · cases h
        · next j q => cases h; exact ⟨(j + 1000 * g) :: q, by simp⟩
    · obtain ⟨p, hp, hk⟩ := backGo_suf h
      exact ⟨p, List.mem_cons_of_mem _ hp, hk⟩
theorem reroot_own {d0 : Nat} {rs : List (Nm × Nm)} (hrs : ∀ p ∈ rs, kin [d0] p.1 = false) {m q : Nm} (hm : m = q ++ [d0]) : reroot rs m = .gone := by
  cases e : reroot rs m with
  | gone => rfl
  | to c =>
    obtain ⟨p, hp, q', hq⟩ := reroot_suf e
    exact absurd (hq.symm.trans hm) (suffix_kin (hrs p hp) q' q)
theorem inS_app {d0 : Nat} {A ns : Nodes} (hA : Own d0 A) {rs : List (Nm × Nm)} (hrs : ∀ p ∈ rs, kin [d0] p.1 = false) : inS rs (insA A ns) = inS rs ns := funext fun m => by
  by_cases hm : ∃ p ∈ A, p.1 = m
  · obtain ⟨p, hp, rfl⟩ := hm
    obtain ⟨q, hq⟩ := hA.suf p hp
    unfold inS
    rw [reroot_own hrs hq]
    split <;> split <;> rfl
  · unfold inS; rw [find_insA _ _ (fun p hp e => hm ⟨p, hp, e⟩)]
theorem inS_own {d0 : Nat} {A ns : Nodes} (hA : Own d0 A) {rs : List (Nm × Nm)} (hrs : ∀ p ∈ rs, kin [d0] p.1 = false) : ∀ p ∈ A, inS rs ns p.1 = .gone := fun p hp => by
  obtain ⟨q, hq⟩ := hA.suf p hp
  unfold inS
  rw [reroot_own hrs hq]
  split <;> rfl
theorem renN_insN {σ : Nm → Sb} {p : Nm × Node} (h : σ p.1 = .gone) : ∀ l : Nodes, renN σ (insN p l) = renN σ l
  | [] => by obtain ⟨m, n⟩ := p; simp only [insN, renN, show σ m = .gone from h]
  | (q, k) :: l => by
    have hp : ∀ r, renN σ (p :: r) = renN σ r := fun r => by obtain ⟨m, n⟩ := p; simp only [renN, show σ m = .gone from h]
    cases e : nmLe p.1.reverse (q, k).1.reverse with
    | true => rw [insN_le e, hp]
    | false =>
      rw [insN_gt e]
      simp only [renN, renN_insN h l]
theorem renN_app {σ : Nm → Sb} {ns : Nodes} : ∀ {A : Nodes}, (∀ p ∈ A, σ p.1 = .gone) → renN σ (insA A ns) = renN σ ns
  | [], h => rfl
  | p :: A, h => (renN_insN (h p List.mem_cons_self) _).trans (renN_app fun q hq => h q (List.mem_cons_of_mem _ hq))
theorem afterN_insN {σ bv : Nm → Sb} {on : Nodes} {p : Nm × Node} (h : σ p.1 = .gone) : ∀ l : Nodes, afterN σ bv on (insN p l) = insN p (afterN σ bv on l)
  | [] => by
    obtain ⟨m, n⟩ := p
    simp only [insN, afterN, after1, show σ m = .gone from h]
  | (q, k) :: l => by
    have hp : ∀ r, afterN σ bv on (p :: r) = p :: afterN σ bv on r := fun r => by
      obtain ⟨m, n⟩ := p
      simp only [afterN, after1, show σ m = .gone from h]
    have hq : ∀ r, afterN σ bv on ((q, k) :: r) = (q, after1 σ bv on q k) :: afterN σ bv on r := fun r => rfl
    cases e : nmLe p.1.reverse (q, k).1.reverse with
    | true => rw [insN_le e, hp, hq, insN_le (p := p) (q := (q, after1 σ bv on q k)) e]
    | false => rw [insN_gt e, hq, hq, afterN_insN h l, insN_gt (p := p) (q := (q, after1 σ bv on q k)) e]
theorem afterN_app {σ bv : Nm → Sb} {on ns : Nodes} : ∀ {A : Nodes}, (∀ p ∈ A, σ p.1 = .gone) → afterN σ bv on (insA A ns) = insA A (afterN σ bv on ns)
  | [], h => rfl
  | p :: A, h => by
    show afterN σ bv on (insN p (insA A ns)) = insN p (insA A (afterN σ bv on ns))
    rw [afterN_insN (h p List.mem_cons_self), afterN_app fun q hq => h q (List.mem_cons_of_mem _ hq)]
theorem genOf_perm : ∀ {a b : Nodes}, List.Perm a b → genOf a = genOf b := fun {a b} h => by
  induction h with
  | nil => rfl
  | cons x _ ih =>
    obtain ⟨m, n⟩ := x
    cases m with
    | nil => exact ih
    | cons j m => cases m with
      | nil => exact ih
      | cons k q => show max (j / 1000) _ = max (j / 1000) _; rw [ih]
  | swap x y l =>
    have e : ∀ (x : Nm × Node) (l : Nodes), genOf (x :: l) = max (genOf [x]) (genOf l) := fun x l => genOf_append [x] l
    rw [e y (x :: l), e x l, e x (y :: l), e y l, ← Nat.max_assoc, ← Nat.max_assoc, Nat.max_comm (genOf [y])]
  | trans _ _ h1 h2 => exact h1.trans h2
theorem genOf_insA (A l : Nodes) : genOf (insA A l) = max (genOf A) (genOf l) := (genOf_perm (insA_perm A l)).trans (genOf_append A l)
theorem lend0_congr {rs : List (Nm × Nm)} {ns ns' : Nodes} {a : AVal} (h : ∀ m ∈ a.names0, find m ns' = find m ns) : lend0 rs ns' a = lend0 rs ns a := by
  cases a with
  | osl nm sh off len =>
    have := h nm List.mem_cons_self
    simp only [lend0, osC, this]
  | _ => rfl
theorem cap0_congr {rs : List (Nm × Nm)} {ns ns' : Nodes} {a : AVal} (h : ∀ m ∈ a.names0, find m ns' = find m ns) : cap0 rs ns' a = cap0 rs ns a := by
  cases a with
  | ptr nm sz i j =>
    have := h nm List.mem_cons_self
    simp only [cap0, this]
  | _ => rfl
theorem lend1_congr {rs : List (Nm × Nm)} {ns ns' : Nodes} {a : AVal} (h : ∀ m ∈ a.names, find m ns' = find m ns) : lend1 rs ns' a = lend1 rs ns a := by
  cases a with
  | agg cs =>
    show packAgg (cs.map (lend0 rs ns')) = packAgg (cs.map (lend0 rs ns))
    rw [List.map_congr_left fun c hc => lend0_congr fun m hm => h m (List.mem_flatMap.2 ⟨c, hc, hm⟩)]
  | fn g cs =>
    show AVal.fn g (cs.map (cap0 rs ns')) = .fn g (cs.map (cap0 rs ns))
    rw [List.map_congr_left fun c hc => cap0_congr fun m hm => h m (List.mem_flatMap.2 ⟨c, hc, hm⟩)]
  | v c => exact lend0_congr (rs := rs) (a := .v c) h
  | sl p sh xs => exact lend0_congr (rs := rs) (a := .sl p sh xs) h
  | nil0 sh => exact lend0_congr (rs := rs) (a := .nil0 sh) h
  | osl nm sh off len => exact lend0_congr (rs := rs) (a := .osl nm sh off len) h
  | ptr nm sz i j => exact lend0_congr (rs := rs) (a := .ptr nm sz i j) h
  | bptr sh x j => exact lend0_congr (rs := rs) (a := .bptr sh x j) h
  | tup vs => exact lend0_congr (rs := rs) (a := .tup vs) h
  | undef => exact lend0_congr (rs := rs) (a := .undef) h
theorem lendAll_congr {md : Nat → Nat} {rs : List (Nm × Nm)} {ns ns' : Nodes} : ∀ (l : List AVal) (i : Nat), (∀ m ∈ l.flatMap AVal.names, find m ns' = find m ns) → lendAll md rs ns' i l = lendAll md rs ns i l
  | [], i, h => rfl
  | a :: l, i, h => by
    unfold lendAll
    rw [lend1_congr fun m hm => h m (List.mem_flatMap.2 ⟨a, List.mem_cons_self, hm⟩), lendAll_congr l (i + 1) fun m hm => h m (by rw [List.flatMap_cons]; exact List.mem_append_right _ hm)]
theorem newS_congr {back : Nm → Sb} {ns ns' : Nodes} (h : ∀ c m, back c = .to m → find m ns' = find m ns) : newS back ns' = newS back ns := funext fun c => by
  unfold newS
  split
  · next m e => rw [h c m e]
  · rfl
theorem backV_congr {σ back : Nm → Sb} {ns ns' on : Nodes} (h : ∀ c m, back c = .to m → find m ns' = find m ns) : backV σ back ns' on = backV σ back ns on := funext fun c => by
  unfold backV
  rw [newS_congr h]
  split
  · rfl
  · split
    · next m e => rw [h c m e]
    · rfl
theorem newN_congr {back bv : Nm → Sb} {ns ns' : Nodes} (h : newS back ns' = newS back ns) : ∀ on : Nodes, newN back bv ns' on = newN back bv ns on
  | [] => rfl
  | (c, n) :: l => by unfold newN; rw [h, newN_congr h l]
theorem swapA {A nn M : Nodes} {b1 b2 : Bool} {F : Nodes → Option X} : grd (nodupN ((insA nn (insA A M)).map (·.1)) && b1 && b2) (F (insA nn (insA A M))) = grd (nodupN ((insA A (insA nn M)).map (·.1)) && b1 && b2) (F (insA A (insA nn M))) := by
  have p1 : List.Perm (insA nn (insA A M)) (nn ++ (A ++ M)) := (insA_perm nn _).trans ((insA_perm A M).append_left nn)
  have p2 : List.Perm (insA A (insA nn M)) (A ++ (nn ++ M)) := (insA_perm A _).trans ((insA_perm nn M).append_left A)
  have p3 : List.Perm (nn ++ (A ++ M)) (A ++ (nn ++ M)) := by
    rw [← List.append_assoc, ← List.append_assoc]
    exact List.perm_append_comm.append_right M
  have hp := (p1.trans p3).trans p2.symm
  have hb : nodupN ((insA nn (insA A M)).map (·.1)) = nodupN ((insA A (insA nn M)).map (·.1)) := by
    rw [Bool.eq_iff_iff, nodupN_iff, nodupN_iff]
    exact (hp.map _).nodup_iff
  cases e : nodupN ((insA nn (insA A M)).map (·.1)) with
  | false => rw [← hb, e]; rfl
  | true =>
    have hn := ((p1.map (·.1)).nodup_iff).1 (nodupN_iff.1 e)
    rw [List.map_append, List.nodup_append] at hn
    rw [← hb, e, insA_comm (fun x hx y hy => ?_) M]
    exact hn.2.2 x.1 (List.mem_map.2 ⟨x, hx, rfl⟩) y.1 (by rw [List.map_append]; exact List.mem_append_left _ (List.mem_map.2 ⟨y, hy, rfl⟩))
theorem evCall_app {cx : Cx} {ts : List AVal} {d0 : Nat} {A ns : Nodes} {d : Option Tmp} {g : FuncId} {args : List AVal} (hA : Own d0 A) (hd : ∀ m ∈ dstN d ++ ftArgs (cx.md g) 0 args, kin [d0] m = false) (hn : ∀ m ∈ args.flatMap AVal.names, kin [d0] m = false) (K : St → Option X) :
    evCall cx ⟨ts, insA A ns⟩ d g args K = callF cx ts A ns d g args K := by
  have hrs : ∀ p ∈ rootsIn (cx.md g) 0 args, kin [d0] p.1 = false := fun p hp => hd _ (List.mem_append_right _ (rootsIn_mem _ _ hp))
  have e1 : frzN (frzNames (cx.md g) 0 args) (insA A ns) = insA A (frzN (frzNames (cx.md g) 0 args) ns) := frzN_app _ _ fun m hm p hp e => by
    obtain ⟨q, hq⟩ := hA.suf p hp
    have := hd m (List.mem_append_right _ (frzNames_mem _ _ hm))
    rw [← e, hq, kin_app] at this; cases this
  have hno : ([] : Nm) ∉ ftArgs (cx.md g) 0 args := fun hm => by
    have := hd [] (List.mem_append_right _ hm)
    rw [kin_nil'] at this; cases this
  unfold evCall callF
  simp only [e1, rootsK_nil hno, thr_no hno, okNew_no]
  generalize frzN (frzNames (cx.md g) 0 args) ns = N
  have hb : ∀ gen on c m, backR (rootsIn (cx.md g) 0 args) d gen on c = .to m → find m (insA A N) = find m N := fun gen on c m h => by
    refine find_insA _ _ fun p hp e => ?_
    obtain ⟨q, hq⟩ := hA.suf p hp
    rw [hq] at e
    unfold backR at h
    split at h
    · cases h
    unfold backS at h
    split at h
    · next r er =>
      cases d with
      | none => cases h
      | some d => cases h; exact suffix_kin (hd [d] (by simp [dstN])) r q e.symm
    · obtain ⟨p', hp', q', hq'⟩ := backGo_suf h
      exact suffix_kin (hrs p' hp') q' q (hq'.symm.trans e.symm)
  have hgen : genOf (insA A N) = genOf N := by rw [genOf_insA, hA.gen, Nat.zero_max]
  have hgone := inS_own (ns := N) hA hrs
  rw [inS_app hA hrs, renN_app hgone, lendAll_congr (ns := N) args 0 fun m hm => find_own hA (hn m hm), hgen]
  simp only [fun on => backV_congr (σ := inS (rootsIn (cx.md g) 0 args) N) (on := on) (hb (genOf N + 1) on), fun on bv => newN_congr (bv := bv) (newS_congr (hb (genOf N + 1) on)), fun on bv => afterN_app (bv := bv) (on := on) (ns := N) hgone]
  congr 1
  refine congrArg _ (funext fun o => ?_)
  exact swapA (F := fun nodes => fcNs nodes fun nodes => fc2 _ fun rv => K ((⟨ts, nodes⟩ : St).put d rv))
theorem callF_nil {cx : Cx} {ts : List AVal} {ns : Nodes} {d : Option Tmp} {g : FuncId} {args : List AVal} (K : St → Option X) : evCall cx ⟨ts, ns⟩ d g args K = callF cx ts [] ns d g args K := rfl
theorem find_upd_none {m nm : Nm} {x : Node} : ∀ {ns : Nodes}, find m (upd nm x ns) = none → find m ns = none
  | [], h => rfl
  | (q, n) :: l, h => by
    unfold upd at h
    unfold find
    cases e1 : nmEq q nm <;> rw [e1] at h <;> simp only [cond_true, cond_false] at h <;> unfold find at h <;> cases e2 : nmEq q m <;> rw [e2] at h <;> simp only [cond_true, cond_false] at h ⊢
    · exact find_upd_none h
    · cases h
    · exact h
    · cases h
theorem find_frzN_none {m : Nm} : ∀ {l : List Nm} {ns : Nodes}, find m (frzN l ns) = none → find m ns = none
  | [], ns, h => h
  | q :: l, ns, h => by
    unfold frzN at h
    split at h
    · exact find_upd_none (find_frzN_none h)
    · exact find_frzN_none h
theorem find_afterN_none {σ bv : Nm → Sb} {on : Nodes} {m : Nm} : ∀ {ns : Nodes}, find m (afterN σ bv on ns) = none → find m ns = none
  | [], h => rfl
  | (q, n) :: l, h => by
    unfold afterN find at h
    unfold find
    cases e : nmEq q m <;> rw [e] at h <;> simp only [cond_true, cond_false] at h ⊢
    · exact find_afterN_none h
    · cases h
theorem find_app_none' {m : Nm} {b : Nodes} : ∀ {a : Nodes}, find m (a ++ b) = none → find m a = none
  | [], h => rfl
  | (q, n) :: l, h => by
    have h : find m ((q, n) :: (l ++ b)) = none := h
    unfold find at h ⊢
    cases e : nmEq q m <;> rw [e] at h <;> simp only [cond_true, cond_false] at h ⊢
    · exact find_app_none' h
    · cases h
theorem find_insN_none {m : Nm} {p : Nm × Node} : ∀ {l : Nodes}, find m (insN p l) = none → find m l = none := fun {l} h => by
  by_cases e : p.1 = m
  · cases hl : find m l with
    | none => rfl
    | some n =>
      have : (m, n) ∈ insN p l := (insN_perm p l).mem_iff.2 (List.mem_cons_of_mem _ (find_mem hl))
      exact absurd this (find_none h n)
  · rwa [find_insN_ne e] at h
theorem find_insA_none {m : Nm} {l : Nodes} : ∀ {A : Nodes}, find m (insA A l) = none → find m l = none
  | [], h => h
  | p :: A, h => find_insA_none (A := A) (find_insN_none h)
theorem callF_fr {cx : Cx} {ts : List AVal} {A ns : Nodes} {d : Option Tmp} {g : FuncId} {args : List AVal} {K : St → Option X} (hno : ([] : Nm) ∉ ftArgs (cx.md g) 0 args) (h : callF cx ts A ns d g args K = some out) :
    ∃ n1 rv, K ((⟨ts, insA A n1⟩ : St).put d rv) = some out ∧ ((insA A n1).map (·.1)).Nodup ∧ (∀ m, find m n1 = none → find m ns = none) ∧
      ∀ ts' A' (K' : St → Option Y), ((insA A' n1).map (·.1)).Nodup → callF cx ts' A' ns d g args K' = K' ((⟨ts', insA A' n1⟩ : St).put d rv) := by
  unfold callF at h
  simp only [thr_no hno, okNew_no] at h
  obtain ⟨h1, h⟩ := grd_some h
  obtain ⟨o, h, h2⟩ := cx.nat _ _ _ _ _ _ h
  obtain ⟨h3, h⟩ := grd_some h
  rw [fcNs_eq, fc2_eq] at h
  rw [Bool.and_assoc, Bool.and_eq_true] at h3
  refine ⟨_, _, h, nodupN_iff.1 h3.1, fun m hm => find_frzN_none (find_afterN_none (find_insA_none hm)), fun ts' A' K' hA' => ?_⟩
  unfold callF
  simp only [thr_no hno, okNew_no]
  rw [h1]
  simp only [grd, cond_true]
  rw [h2]
  rw [Bool.and_assoc, nodupN_iff.2 hA', h3.2]
  simp only [Bool.and_true, cond_true]
  rw [fcNs_eq, fc2_eq]
/-- A call that leaves pointers as they are. -/
theorem evCall_kept {cx : Cx} {d : Option Tmp} {g : FuncId} {args : List AVal} {K : St → Option X} (hq : thr (cx.md g) args = true) (h : evCall cx s d g args K = some out) :
    ∃ z ns, K ((⟨s.tmps, ns⟩ : St).put d z) = some out ∧ keptN ns s.nodes = true ∧ ∀ ts (K' : St → Option Y), evCall cx ⟨ts, s.nodes⟩ d g args K' = K' ((⟨ts, ns⟩ : St).put d z) := by
  unfold evCall at h
  simp only at h
  obtain ⟨h1, h⟩ := grd_some h
  obtain ⟨o, h, h2⟩ := cx.nat _ _ _ _ _ _ h
  obtain ⟨h3, h⟩ := grd_some h
  rw [fcNs_eq, fc2_eq] at h
  have h3' := h3
  rw [Bool.and_eq_true] at h3'
  have h4 := h3'.2
  unfold okNew at h4
  rw [hq, cond_true, Bool.and_eq_true] at h4
  refine ⟨_, _, h, h4.2, fun ts K' => ?_⟩
  unfold evCall
  simp only
  rw [h1]
  simp only [grd, cond_true]
  rw [h2]
  rw [h3]
  simp only [cond_true]
  rw [fcNs_eq, fc2_eq]
/-- A call does not know rows that are only read behind it. -/
theorem upd_comm {a b : Nm} {x y : Node} (h : a ≠ b) : ∀ l : Nodes, upd a x (upd b y l) = upd b y (upd a x l)
  | [] => rfl
  | (q, k) :: l => by
    have hab : nmEq q a = true → nmEq q b = false := fun e => by
      have := nmEq_iff.1 e
      subst this
      exact nmEq_ne h
    cases ea : nmEq q a with
    | true => simp only [upd, ea, hab ea, cond_true, cond_false]
    | false => cases eb : nmEq q b <;> simp only [upd, ea, eb, cond_true, cond_false, upd_comm h l]
theorem upd_frzN {nm : Nm} {x : Node} : ∀ (l : List Nm) (ns : Nodes), nm ∉ l → frzN l (upd nm x ns) = upd nm x (frzN l ns)
  | [], ns, h => rfl
  | m :: l, ns, h => by
    simp only [List.mem_cons, not_or] at h
    have hne : m ≠ nm := fun e => h.1 e.symm
    unfold frzN
    rw [find_upd_ne hne]
    split
    · rw [upd_comm hne, upd_frzN l _ h.2]
    · exact upd_frzN l ns h.2
theorem frzN_comm : ∀ (a l : List Nm) (ns : Nodes), (∀ m ∈ a, m ∉ l) → frzN a (frzN l ns) = frzN l (frzN a ns)
  | [], l, ns, h => rfl
  | m :: a, l, ns, h => by
    have h1 := h m List.mem_cons_self
    have h2 : ∀ m ∈ a, m ∉ l := fun m hm => h m (List.mem_cons_of_mem _ hm)
    rw [frzN, frzN, find_frzN l ns h1]
    split
    · rw [← upd_frzN l ns h1, frzN_comm a l _ h2]
    · exact frzN_comm a l ns h2
theorem renN_upd {σ : Nm → Sb} {nm : Nm} {x : Node} (h : σ nm = .gone) : ∀ l : Nodes, renN σ (upd nm x l) = renN σ l
  | [] => rfl
  | (q, k) :: l => by
    unfold upd
    cases e : nmEq q nm with
    | true =>
      have e' := nmEq_iff.1 e
      subst e'
      simp only [cond_true, renN, h]
    | false => simp only [cond_false, renN, renN_upd h l]
theorem renN_frzN {σ : Nm → Sb} : ∀ (l : List Nm) (ns : Nodes), (∀ m ∈ l, σ m = .gone) → renN σ (frzN l ns) = renN σ ns
  | [], ns, h => rfl
  | m :: l, ns, h => by
    have h2 : ∀ m ∈ l, σ m = .gone := fun m hm => h m (List.mem_cons_of_mem _ hm)
    unfold frzN
    split
    · rw [renN_frzN l _ h2, renN_upd (h m List.mem_cons_self)]
    · exact renN_frzN l ns h2
theorem genOf_upd {nm : Nm} {x : Node} : ∀ l : Nodes, genOf (upd nm x l) = genOf l
  | [] => rfl
  | (q, k) :: l => by
    have e : ∀ (m : Nm) (a b : Node) (l1 l2 : Nodes), genOf l1 = genOf l2 → genOf ((m, a) :: l1) = genOf ((m, b) :: l2) := fun m a b l1 l2 h => by
      cases m with
      | nil => exact h
      | cons j m => cases m with
        | nil => exact h
        | cons k q => show max (j / 1000) _ = max (j / 1000) _; rw [h]
    unfold upd
    cases nmEq q nm with
    | true => exact e _ _ _ _ _ rfl
    | false => exact e _ _ _ _ _ (genOf_upd l)
theorem genOf_frzN : ∀ (l : List Nm) (ns : Nodes), genOf (frzN l ns) = genOf ns
  | [], ns => rfl
  | m :: l, ns => by
    unfold frzN
    split
    · rw [genOf_frzN l, genOf_upd]
    · exact genOf_frzN l ns
theorem afterN_upd {σ bv : Nm → Sb} {on : Nodes} {nm : Nm} {x : Node} (h : σ nm = .gone) : ∀ l : Nodes, afterN σ bv on (upd nm x l) = upd nm x (afterN σ bv on l)
  | [] => rfl
  | (q, k) :: l => by
    unfold upd
    cases e : nmEq q nm with
    | true =>
      have e' := nmEq_iff.1 e
      subst e'
      simp only [cond_true, afterN, after1, h, upd, e]
    | false => simp only [cond_false, afterN, upd, e, afterN_upd h l]
theorem afterN_frzN {σ bv : Nm → Sb} {on : Nodes} : ∀ (l : List Nm) (ns : Nodes), (∀ m ∈ l, σ m = .gone) → afterN σ bv on (frzN l ns) = frzN l (afterN σ bv on ns)
  | [], ns, h => rfl
  | m :: l, ns, h => by
    have h1 := h m List.mem_cons_self
    have h2 : ∀ m ∈ l, σ m = .gone := fun m hm => h m (List.mem_cons_of_mem _ hm)
    rw [frzN, frzN, find_afterN h1]
    split
    · rw [afterN_frzN l _ h2, afterN_upd h1]
    · exact afterN_frzN l ns h2
theorem names_upd {nm : Nm} {x : Node} : ∀ l : Nodes, (upd nm x l).map (·.1) = l.map (·.1)
  | [] => rfl
  | (q, k) :: l => by
    unfold upd
    cases nmEq q nm <;> simp [names_upd l]
theorem names_frzN : ∀ (l : List Nm) (ns : Nodes), (frzN l ns).map (·.1) = ns.map (·.1)
  | [], ns => rfl
  | m :: l, ns => by
    unfold frzN
    split
    · rw [names_frzN l, names_upd]
    · exact names_frzN l ns
theorem reroot_far {rs : List (Nm × Nm)} {m : Nm} (h : ∀ p ∈ rs, kin p.1 m = false) : reroot rs m = .gone := by
  cases e : reroot rs m with
  | gone => rfl
  | to c => obtain ⟨p, hp, hk⟩ := reroot_to e; rw [h p hp] at hk; cases hk
theorem inS_frzN {rs : List (Nm × Nm)} {l : List Nm} {ns : Nodes} (h : ∀ m ∈ l, ∀ p ∈ rs, kin p.1 m = false) : inS rs (frzN l ns) = inS rs ns := funext fun m => by
  by_cases hm : m ∈ l
  · unfold inS
    rw [reroot_far (h m hm)]
    split <;> split <;> rfl
  · unfold inS; rw [find_frzN l ns hm]
theorem callF_frz {cx : Cx} {ts : List AVal} {A ns : Nodes} {d : Option Tmp} {g : FuncId} {args : List AVal} {l : List Nm} (hA : ∀ m ∈ l, ∀ p ∈ A, p.1 ≠ m) (hd : ∀ m ∈ l, ∀ q ∈ dstN d ++ ftArgs (cx.md g) 0 args, kin q m = false) (hn : ∀ m ∈ args.flatMap AVal.names, m ∉ l) (hno : ([] : Nm) ∉ ftArgs (cx.md g) 0 args) (K : St → Option X) :
    callF cx ts A (frzN l ns) d g args K = callF cx ts A ns d g args fun s => K ⟨s.tmps, frzN l s.nodes⟩ := by
  have hrs : ∀ m ∈ l, ∀ p ∈ rootsIn (cx.md g) 0 args, kin p.1 m = false := fun m hm p hp => hd m hm _ (List.mem_append_right _ (rootsIn_mem _ _ hp))
  have e1 : frzN (frzNames (cx.md g) 0 args) (frzN l ns) = frzN l (frzN (frzNames (cx.md g) 0 args) ns) := frzN_comm _ _ _ fun m hm hml => by
    have := hd m hml m (List.mem_append_right _ (frzNames_mem _ _ hm))
    rw [kin_refl] at this; cases this
  unfold callF
  simp only [e1, rootsK_nil hno, thr_no hno, okNew_no]
  generalize frzN (frzNames (cx.md g) 0 args) ns = N
  have hb : ∀ gen on c m, backR (rootsIn (cx.md g) 0 args) d gen on c = .to m → m ∉ l := fun gen on c m h hm => by
    unfold backR at h
    split at h
    · cases h
    unfold backS at h
    split at h
    · next r er =>
      cases d with
      | none => cases h
      | some d =>
        cases h
        have := hd _ hm [d] (by simp [dstN])
        rw [kin_app] at this; cases this
    · obtain ⟨p', hp', hk⟩ := backGo_to h
      rw [hrs m hm p' hp'] at hk; cases hk
  have hgone : ∀ m ∈ l, inS (rootsIn (cx.md g) 0 args) N m = .gone := fun m hm => by
    unfold inS
    rw [reroot_far (hrs m hm)]
    split <;> rfl
  have hfind : ∀ gen on c m, backR (rootsIn (cx.md g) 0 args) d gen on c = .to m → find m (frzN l N) = find m N := fun gen on c m h => find_frzN l N (hb gen on c m h)
  rw [inS_frzN hrs, renN_frzN l N hgone, lendAll_congr (ns := N) args 0 fun m hm => find_frzN l N (hn m hm), genOf_frzN]
  simp only [fun on => backV_congr (σ := inS (rootsIn (cx.md g) 0 args) N) (on := on) (hfind (genOf N + 1) on), fun on bv => newN_congr (bv := bv) (newS_congr (hfind (genOf N + 1) on)), fun on bv => afterN_frzN (bv := bv) (on := on) l N hgone]
  congr 1
  refine congrArg _ (funext fun o => ?_)
  have hnn : ∀ m ∈ l, ∀ p ∈ newN (backR (rootsIn (cx.md g) 0 args) d (genOf N + 1) o.nodes) (backV (inS (rootsIn (cx.md g) 0 args) N) (backR (rootsIn (cx.md g) 0 args) d (genOf N + 1) o.nodes) N o.nodes) N o.nodes, p.1 ≠ m := fun m hm p hp e => by
    obtain ⟨m', n⟩ := p
    cases e
    obtain ⟨c, n0, _, hc, _⟩ := mem_newN.1 hp
    exact hb _ _ _ _ (newS_to hc).1 hm
  rw [← frzN_app l _ hnn, ← frzN_app l _ hA, names_frzN]
  simp only [fcNs_eq, fc2_eq]
  congr 1
  cases d <;> rfl
end
end Go.Proofs.YtlaojkheenobaaaDoorS
