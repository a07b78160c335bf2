/- Options by rising number, those of one number as they stand: in plain words. -/
import Derived.Test.YtlgdoglffddjfaaPM
namespace Go.Proofs.YtlgdoglffddjfaaD
open Go Go.Proofs.YtlgdoglffddjfaaS Go.Proofs
set_option linter.unusedVariables false
set_option linter.unusedSimpArgs false
section
/-- An option: its number, its bytes. -/
abbrev Op := Int × List Int
def opv (o : Op) : CV := .agg [.int .i64 o.1, .slc none (by8 o.2)]
def ops (l : List Op) : List CV := l.map opv
theorem ops_length (l : List Op) : (ops l).length = l.length := by simp [ops]
theorem ops_append (l m : List Op) : ops (l ++ m) = ops l ++ ops m := by simp [ops]
/-- Sorted; the same, number by number. -/
def Srt (l : List Op) : Prop := l.Pairwise (fun a b => a.1 ≤ b.1)
def Flt (l m : List Op) : Prop := ∀ v : Int, m.filter (fun o => o.1 == v) = l.filter (fun o => o.1 == v)
theorem Flt.refl (l : List Op) : Flt l l := fun _ => rfl
theorem Flt.symm {l m : List Op} (h : Flt l m) : Flt m l := fun v => (h v).symm
theorem Flt.trans {l m n : List Op} (h : Flt l m) (k : Flt m n) : Flt l n := fun v => (k v).trans (h v)
theorem Flt.app {l m l' m' : List Op} (h : Flt l m) (k : Flt l' m') : Flt (l ++ l') (m ++ m') := fun v => by rw [List.filter_append, List.filter_append, h v, k v]
theorem Flt.perm {l m : List Op} (h : Flt l m) : l.Perm m := by
  rw [List.perm_iff_count]
  intro a
  have e : ∀ q : List Op, q.count a = (q.filter (fun o => o.1 == a.1)).count a := fun q => (List.count_filter (by simp)).symm
  rw [e l, e m, h a.1]
theorem Flt.len {l m : List Op} (h : Flt l m) : m.length = l.length := h.perm.length_eq.symm
theorem uniq : ∀ {l m : List Op}, Srt l → Srt m → Flt l m → l = m
  | [], [], _, _, _ => rfl
  | [], b :: m, _, _, h => by have := h.len; simp at this
  | a :: l, [], _, _, h => by have := h.len; simp at this
  | a :: l, b :: m, hl, hm, h => by
    have hl' := List.pairwise_cons.1 hl
    have hm' := List.pairwise_cons.1 hm
    have ha : a ∈ b :: m := h.perm.mem_iff.1 List.mem_cons_self
    have hb : b ∈ a :: l := h.perm.mem_iff.2 List.mem_cons_self
    have h1 : b.1 ≤ a.1 := by
      rcases List.mem_cons.1 ha with rfl | ha
      · exact Int.le_refl _
      · exact hm'.1 a ha
    have h2 : a.1 ≤ b.1 := by
      rcases List.mem_cons.1 hb with rfl | hb
      · exact Int.le_refl _
      · exact hl'.1 b hb
    have e : a.1 = b.1 := by omega
    have hv := h a.1
    rw [List.filter_cons_of_pos (by simp [e]), List.filter_cons_of_pos (by simp)] at hv
    obtain ⟨rfl, ht⟩ := List.cons.inj hv
    rw [uniq hl'.2 hm'.2 (fun v => by
      have := h v
      by_cases ev : b.1 = v
      · rw [List.filter_cons_of_pos (by simp [ev]), List.filter_cons_of_pos (by simp [ev])] at this
        exact (List.cons.inj this).2
      · rwa [List.filter_cons_of_neg (by simp [ev]), List.filter_cons_of_neg (by simp [ev])] at this)]
/-- Put in ahead of the first of a greater number. -/
def ins (x : Op) : List Op → List Op
  | [] => [x]
  | b :: l => if x.1 < b.1 then x :: b :: l else b :: ins x l
theorem ins_mem {x y : Op} : ∀ {l : List Op}, y ∈ ins x l → y = x ∨ y ∈ l
  | [], h => by simp [ins] at h; exact .inl h
  | b :: l, h => by
    unfold ins at h
    split at h
    · rcases List.mem_cons.1 h with h | h
      · exact .inl h
      · exact .inr h
    · rcases List.mem_cons.1 h with h | h
      · exact .inr (by rw [h]; exact List.mem_cons_self)
      · rcases ins_mem h with h | h
        · exact .inl h
        · exact .inr (List.mem_cons_of_mem _ h)
theorem ins_srt (x : Op) : ∀ {l : List Op}, Srt l → Srt (ins x l)
  | [], _ => List.pairwise_singleton _ _
  | b :: l, h => by
    have h' := List.pairwise_cons.1 h
    unfold ins
    split
    · next hx =>
      refine List.pairwise_cons.2 ⟨fun y hy => ?_, h⟩
      rcases List.mem_cons.1 hy with rfl | hy
      · omega
      · have := h'.1 y hy; omega
    · next hx =>
      refine List.pairwise_cons.2 ⟨fun y hy => ?_, ins_srt x h'.2⟩
      rcases ins_mem hy with rfl | hy
      · omega
      · exact h'.1 y hy
theorem ins_flt (x : Op) : ∀ {l : List Op}, Srt l → Flt (l ++ [x]) (ins x l)
  | [], _ => fun v => rfl
  | b :: l, h => fun v => by
    have h' := List.pairwise_cons.1 h
    unfold ins
    split
    · next hx =>
      by_cases ev : x.1 = v
      · have hnone : ∀ q : List Op, (∀ y ∈ q, x.1 < y.1) → q.filter (fun o => o.1 == v) = [] := fun q hq => by
          rw [List.filter_eq_nil_iff]
          intro y hy
          have := hq y hy
          simp; omega
        have hall : ∀ y ∈ b :: l, x.1 < y.1 := fun y hy => by
          rcases List.mem_cons.1 hy with rfl | hy
          · exact hx
          · have := h'.1 y hy; omega
        rw [List.filter_append, List.filter_cons_of_pos (by simp [ev]), hnone _ hall, List.nil_append, List.filter_cons_of_pos (by simp [ev]), List.filter_nil]
      · rw [List.filter_append, List.filter_cons_of_neg (by simp [ev]), List.filter_cons_of_neg (p := fun o : Op => o.1 == v) (a := x) (by simp [ev]), List.filter_nil, List.append_nil]
    · have ih := ins_flt x h'.2 v
      rw [List.cons_append, List.filter_cons, List.filter_cons, ih]
theorem ins_len (x : Op) {l : List Op} (h : Srt l) : (ins x l).length = l.length + 1 := by rw [(ins_flt x h).len]; simp
/-- Options sorted. -/
def isort (l : List Op) : List Op := l.foldl (fun acc x => ins x acc) []
theorem isort_snoc (l : List Op) (x : Op) : isort (l ++ [x]) = ins x (isort l) := by simp [isort]
theorem isort_both (l : List Op) : Srt (isort l) ∧ Flt l (isort l) := by
  induction l using List.reverseRecOn' with
  | nil => exact ⟨List.Pairwise.nil, Flt.refl _⟩
  | snoc l x ih =>
    rw [isort_snoc]
    exact ⟨ins_srt x ih.1, (ih.2.app (Flt.refl [x])).trans (ins_flt x ih.1)⟩
where
  List.reverseRecOn' {motive : List Op → Prop} (l : List Op) (nil : motive []) (snoc : ∀ l x, motive l → motive (l ++ [x])) : motive l := by
    rw [← List.reverse_reverse l]
    induction l.reverse with
    | nil => exact nil
    | cons x l ih => rw [List.reverse_cons]; exact snoc _ _ ih
theorem isort_srt (l : List Op) : Srt (isort l) := (isort_both l).1
theorem isort_flt (l : List Op) : Flt l (isort l) := (isort_both l).2
theorem isort_len (l : List Op) : (isort l).length = l.length := (isort_flt l).len
theorem eq_isort {l m : List Op} (h : Srt m) (k : Flt l m) : m = isort l := uniq h (isort_srt l) (k.symm.trans (isort_flt l))
theorem isort_mem {l : List Op} {y : Op} : y ∈ isort l ↔ y ∈ l := (isort_flt l).perm.symm.mem_iff
/-- Two that stand side by side are exchanged. -/
theorem flt_swap (p s : List Op) {a b : Op} (h : a.1 ≠ b.1) : Flt (p ++ a :: b :: s) (p ++ b :: a :: s) := fun v => by
  rw [List.filter_append, List.filter_append]
  congr 1
  by_cases ea : a.1 = v
  · have eb : ¬ b.1 = v := by omega
    rw [List.filter_cons_of_neg (by simp [eb]), List.filter_cons_of_pos (by simp [ea]), List.filter_cons_of_pos (by simp [ea]), List.filter_cons_of_neg (by simp [eb])]
  · rw [List.filter_cons_of_neg (p := fun o : Op => o.1 == v) (a := a) (l := b :: s) (by simp [ea])]
    rw [List.filter_cons (x := b), List.filter_cons (x := b), List.filter_cons_of_neg (p := fun o : Op => o.1 == v) (a := a) (l := s) (by simp [ea])]
/-- Two blocks are exchanged. -/
theorem flt_blocks (U V : List Op) (h : ∀ u ∈ U, ∀ v ∈ V, v.1 < u.1) : Flt (U ++ V) (V ++ U) := fun v => by
  rw [List.filter_append, List.filter_append]
  by_cases hu : ∃ u ∈ U, u.1 = v
  · obtain ⟨u, hu, rfl⟩ := hu
    have : V.filter (fun o => o.1 == u.1) = [] := by
      rw [List.filter_eq_nil_iff]
      intro y hy
      have := h u hu y hy
      simp; omega
    rw [this]; simp
  · have : U.filter (fun o => o.1 == v) = [] := by
      rw [List.filter_eq_nil_iff]
      intro y hy
      simp
      exact fun e => hu ⟨y, hy, e⟩
    rw [this]; simp
theorem srt_app {U V : List Op} : Srt (U ++ V) ↔ Srt U ∧ Srt V ∧ ∀ u ∈ U, ∀ v ∈ V, u.1 ≤ v.1 := List.pairwise_append
end
end Go.Proofs.YtlgdoglffddjfaaD
