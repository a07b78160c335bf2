/- Plain texts joined (by cut.py). -/
import Derived.Test.YtfllanhepeginaaD
import Derived.Test.YtfllanhepeginaaPM
namespace Go.Proofs.YtfllanhepeginaaD
open Go Go.Proofs.YtfllanhepeginaaS Go.Proofs
set_option linter.unusedVariables false
set_option linter.unusedSimpArgs false
section
variable {X : Type}
theorem clone_eq {k : Nat} (K : List CV → Option X) (x : List CV) (h : x.length < 70368744177664) : f29 k K x = K x := by
  unfold f29
  rw [grd_dec (by omega)]
end
section
variable {X : Type}
theorem same_eq {k : Nat} (K : Bool → Option X) (a b : List Int) (hk : a.length < k) (hl : a.length < 4611686018427387904) : f13 k K (by8 a) (by8 b) = K (decide (a = b)) := by
  unfold f13 f13_A f13_T
  by_cases h : a.length = b.length
  · have key := iterV_spec (T := f13_L1 k K) (fun i => (by8 a, by8 b, (i : Int))) (fun i => K (decide (a.drop i = b.drop i))) a.length (fun i rec hi hr => by
      have hb : i < b.length := by omega
      unfold f13_L1 f13_T1
      simp only [by8_length, by8_get, Int.toNat_natCast, List.getElem?_eq_getElem hi, List.getElem?_eq_getElem hb, Option.map_some, Option.bind_some, isI_int, toI_int, grd_true, dec0, decLt, hi, decide_true, cond_true, wrap64_succ (show i < 4611686018427387904 by omega), hr]
      conv => rhs; rw [List.drop_eq_getElem_cons hi, List.drop_eq_getElem_cons hb]
      by_cases e : a[i] = b[i]
      · rw [show (a[i] != b[i]) = false by simp [e]]
        simp only [cond_false, List.cons.injEq, e, true_and]
      · rw [show (a[i] != b[i]) = true by simp [e]]
        simp only [cond_true, List.cons.injEq, e, false_and, decide_false]) (fun rec => by
      unfold f13_L1 f13_T1
      simp only [by8_length, bif_dec]
      rw [if_neg (by omega)]
      simp [h]) k 0 (Nat.zero_le _) (by omega)
    simp only [by8_length, h] at key ⊢
    simpa using key
  · have : a ≠ b := fun e => h (by rw [e])
    have h' : ((a.length : Int) != (b.length : Int)) = true := by simp; omega
    simp only [by8_length, h', cond_true, this, decide_false]
end
section
variable {X : Type}
theorem t8 (bs : List Int) : List.take (0 + bs.length) (by8 bs) = by8 bs := by rw [Nat.zero_add]; exact take_all _ _ (by rw [by8_length]; exact Nat.le_refl _)
theorem t8' (bs : List Int) : List.take bs.length (by8 bs) = by8 bs := take_all _ _ (by rw [by8_length]; exact Nat.le_refl _)
end
section
variable {X : Type}
/-- Parts, as a row of rows. -/
def parts (ps : List (List Int)) : List CV := ps.map fun p => .slc none (by8 p)
end
section
variable {X V α : Type}
/-- The place of the first such, from a place on. -/
def ixf (p : α → Bool) : Nat → List α → Option Nat
  | _, [] => none
  | i, a :: l => if p a = true then some i else ixf p (i + 1) l
theorem ixf_some {p : α → Bool} : ∀ {l : List α} {i j : Nat}, ixf p i l = some j → i ≤ j ∧ j < i + l.length ∧ (∃ a, l[j - i]? = some a ∧ p a = true) ∧ ∀ q, i ≤ q → q < j → ∀ a, l[q - i]? = some a → p a = false
  | [], i, j, h => by cases h
  | a :: l, i, j, h => by
    unfold ixf at h
    split at h
    · cases h; exact ⟨Nat.le_refl _, by simp, ⟨a, by simp, by assumption⟩, fun q h1 h2 => by omega⟩
    · rename_i hpa
      obtain ⟨h1, h4, ⟨b, h2, h3⟩, h5⟩ := ixf_some h
      refine ⟨by omega, by simp only [List.length_cons]; omega, ⟨b, ?_, h3⟩, fun q hq1 hq2 c hc => ?_⟩
      · rw [show j - i = (j - (i + 1)) + 1 by omega]
        simpa using h2
      · rcases Nat.eq_or_lt_of_le hq1 with e | e
        · subst e
          simp at hc
          subst hc
          simpa using hpa
        · refine h5 q (by omega) hq2 c ?_
          rw [show q - i = (q - (i + 1)) + 1 by omega] at hc
          simpa using hc
theorem ixf_none {p : α → Bool} : ∀ {l : List α} {i : Nat}, ixf p i l = none → ∀ a ∈ l, p a = false
  | [], i, h, a, ha => by simp at ha
  | b :: l, i, h, a, ha => by
    unfold ixf at h
    split at h
    · cases h
    · rename_i hb
      rcases List.mem_cons.1 ha with rfl | ha
      · simpa using hb
      · exact ixf_none h a ha
def ixI : Option Nat → Int
  | none => -1
  | some j => j
/-- A loop that searches. -/
theorem ixLoop {T : (V → Option X) → V → Option X} (S : Nat → V) (p : α → Bool) (l : List α) (K : Int → Option X)
    (hstep : ∀ (i : Nat) rec (h : i < l.length), T rec (S i) = bif p l[i] then K i else rec (S (i + 1))) (hend : ∀ rec, T rec (S l.length) = K (-1))
    (k i : Nat) (hi : i ≤ l.length) (hk : l.length - i < k) : iterV T k (S i) = K (ixI (ixf p i (l.drop i))) := by
  refine iterV_spec S (fun i => K (ixI (ixf p i (l.drop i)))) l.length (fun i rec h hr => ?_) (fun rec => ?_) k i hi hk
  · rw [hstep i rec h, hr, List.drop_eq_getElem_cons h]
    conv => rhs; unfold ixf
    cases p l[i] <;> rfl
  · rw [hend, List.drop_length]; rfl
theorem ixLoop0 {T : (V → Option X) → V → Option X} (S : Nat → V) (p : α → Bool) (l : List α) (K : Int → Option X)
    (hstep : ∀ (i : Nat) rec (h : i < l.length), T rec (S i) = bif p l[i] then K i else rec (S (i + 1))) (hend : ∀ rec, T rec (S l.length) = K (-1))
    (k : Nat) (hk : l.length < k) : iterV T k (S 0) = K (ixI (ixf p 0 l)) := by
  have := ixLoop S p l K hstep hend k 0 (Nat.zero_le _) (by omega)
  rwa [List.drop_zero] at this
theorem ixf_filter {p : α → Bool} : ∀ {l : List α} {i j : Nat}, ixf p i l = some j → (l.take (j - i + 1)).filter (fun a => !p a) = l.take (j - i)
  | [], i, j, h => by cases h
  | a :: l, i, j, h => by
    have h0 := h
    unfold ixf at h
    split at h
    · rename_i hp
      cases h
      simp [hp]
    · rename_i hp
      obtain ⟨h1, _⟩ := ixf_some h
      have := ixf_filter h
      rw [show j - i + 1 = (j - (i + 1) + 1) + 1 by omega, List.take_succ_cons, List.filter_cons_of_pos (by simp [hp]), this, show j - i = (j - (i + 1)) + 1 by omega, List.take_succ_cons]
/-- A loop that takes away what is such. -/
theorem dfLoop {T : (V → Option X) → V → Option X} (S : Nat → Nat → List CV → V) (p : α → Bool) (cv : α → CV) (l : List α) (K : Nat × List CV → Option X)
    (hstep : ∀ (i j : Nat) (row : List CV) rec (h : j < l.length), i < j → row.length = l.length → row[j]? = some (cv l[j]) → T rec (S i j row) = bif !p l[j] then rec (S (i + 1) (j + 1) (row.set i (cv l[j]))) else rec (S i (j + 1) row))
    (hend : ∀ (i : Nat) (row : List CV) rec, i ≤ l.length → row.length = l.length → T rec (S i l.length row) = K (i, row.take i)) :
    ∀ (k i j : Nat) (row : List CV), j ≤ l.length → l.length - j < k → i < j → row.length = l.length → row.drop j = (l.drop j).map cv → row.take i = ((l.take j).filter fun a => !p a).map cv →
      iterV T k (S i j row) = K ((l.filter fun a => !p a).length, (l.filter fun a => !p a).map cv)
  | 0, i, j, row, _, hk, _, _, _, _ => absurd hk (Nat.not_lt_zero _)
  | k + 1, i, j, row, hj, hk, hij, hlen, hdrop, htake => by
    show T (iterV T k) (S i j row) = _
    have hi : i = ((l.take j).filter fun a => !p a).length := by
      have := congrArg List.length htake
      simp only [List.length_take, List.length_map] at this
      omega
    rcases Nat.lt_or_ge j l.length with h | h
    · have hr : row[j]? = some (cv l[j]) := by
        have := congrArg (·[0]?) hdrop
        simp only [List.getElem?_drop, Nat.add_zero, List.getElem?_map, List.getElem?_eq_getElem h, Option.map_some] at this
        exact this
      have hd1 : row.drop (j + 1) = (l.drop (j + 1)).map cv := by
        have := congrArg (List.drop 1) hdrop
        rwa [List.drop_drop, ← List.map_drop, List.drop_drop] at this
      rw [hstep i j row _ h hij hlen hr]
      have ht : l.take (j + 1) = l.take j ++ [l[j]] := by rw [List.take_append_getElem h]
      cases hp : p l[j] with
      | true =>
        show iterV T k (S i (j + 1) row) = _
        refine dfLoop S p cv l K hstep hend k i (j + 1) row h (by omega) (by omega) hlen hd1 ?_
        rw [ht, List.filter_append, htake]
        simp [hp]
      | false =>
        show iterV T k (S (i + 1) (j + 1) (row.set i (cv l[j]))) = _
        refine dfLoop S p cv l K hstep hend k (i + 1) (j + 1) _ h (by omega) (by omega) (by rw [List.length_set]; exact hlen) ?_ ?_
        · rw [List.drop_set_of_lt (by omega)]; exact hd1
        · rw [ht, List.filter_append, List.map_append, ← htake, List.take_set_succ_aux (by omega)]
          simp [hp]
    · have : j = l.length := by omega
      subst this
      rw [hend i row _ (by omega) hlen, htake, hi]
      rw [List.take_length]
where
  List.take_set_succ_aux {row : List CV} {i : Nat} {x : CV} (h : i < row.length) : (row.set i x).take (i + 1) = row.take i ++ [x] := by
    rw [List.take_succ_eq_append_getElem (by rw [List.length_set]; exact h)]
    simp [List.take_set_of_le]
end
section
/-- An option: its number, its bytes. -/
abbrev Op := Int × List Int
def opv (o : Op) : CV := .agg [.int .i64 o.1, .slc none (by8 o.2)]
def ops (l : List Op) : List CV := l.map opv
theorem ops_length (l : List Op) : (ops l).length = l.length := by simp [ops]
theorem ops_append (l m : List Op) : ops (l ++ m) = ops l ++ ops m := by simp [ops]
/-- Sorted; the same, number by number. -/
def Srt (l : List Op) : Prop := l.Pairwise (fun a b => a.1 ≤ b.1)
def Flt (l m : List Op) : Prop := ∀ v : Int, m.filter (fun o => o.1 == v) = l.filter (fun o => o.1 == v)
theorem Flt.refl (l : List Op) : Flt l l := fun _ => rfl
theorem Flt.symm {l m : List Op} (h : Flt l m) : Flt m l := fun v => (h v).symm
theorem Flt.trans {l m n : List Op} (h : Flt l m) (k : Flt m n) : Flt l n := fun v => (k v).trans (h v)
theorem Flt.app {l m l' m' : List Op} (h : Flt l m) (k : Flt l' m') : Flt (l ++ l') (m ++ m') := fun v => by rw [List.filter_append, List.filter_append, h v, k v]
theorem Flt.perm {l m : List Op} (h : Flt l m) : l.Perm m := by
  rw [List.perm_iff_count]
  intro a
  have e : ∀ q : List Op, q.count a = (q.filter (fun o => o.1 == a.1)).count a := fun q => (List.count_filter (by simp)).symm
  rw [e l, e m, h a.1]
theorem Flt.len {l m : List Op} (h : Flt l m) : m.length = l.length := h.perm.length_eq.symm
theorem uniq : ∀ {l m : List Op}, Srt l → Srt m → Flt l m → l = m
  | [], [], _, _, _ => rfl
  | [], b :: m, _, _, h => by have := h.len; simp at this
  | a :: l, [], _, _, h => by have := h.len; simp at this
  | a :: l, b :: m, hl, hm, h => by
    have hl' := List.pairwise_cons.1 hl
    have hm' := List.pairwise_cons.1 hm
    have ha : a ∈ b :: m := h.perm.mem_iff.1 List.mem_cons_self
    have hb : b ∈ a :: l := h.perm.mem_iff.2 List.mem_cons_self
    have h1 : b.1 ≤ a.1 := by
      rcases List.mem_cons.1 ha with rfl | ha
      · exact Int.le_refl _
      · exact hm'.1 a ha
    have h2 : a.1 ≤ b.1 := by
      rcases List.mem_cons.1 hb with rfl | hb
      · exact Int.le_refl _
      · exact hl'.1 b hb
    have e : a.1 = b.1 := by omega
    have hv := h a.1
    rw [List.filter_cons_of_pos (by simp [e]), List.filter_cons_of_pos (by simp)] at hv
    obtain ⟨rfl, ht⟩ := List.cons.inj hv
    rw [uniq hl'.2 hm'.2 (fun v => by
      have := h v
      by_cases ev : b.1 = v
      · rw [List.filter_cons_of_pos (by simp [ev]), List.filter_cons_of_pos (by simp [ev])] at this
        exact (List.cons.inj this).2
      · rwa [List.filter_cons_of_neg (by simp [ev]), List.filter_cons_of_neg (by simp [ev])] at this)]
/-- Put in ahead of the first of a greater number. -/
def ins (x : Op) : List Op → List Op
  | [] => [x]
  | b :: l => if x.1 < b.1 then x :: b :: l else b :: ins x l
theorem ins_mem {x y : Op} : ∀ {l : List Op}, y ∈ ins x l → y = x ∨ y ∈ l
  | [], h => by simp [ins] at h; exact .inl h
  | b :: l, h => by
    unfold ins at h
    split at h
    · rcases List.mem_cons.1 h with h | h
      · exact .inl h
      · exact .inr h
    · rcases List.mem_cons.1 h with h | h
      · exact .inr (by rw [h]; exact List.mem_cons_self)
      · rcases ins_mem h with h | h
        · exact .inl h
        · exact .inr (List.mem_cons_of_mem _ h)
theorem ins_srt (x : Op) : ∀ {l : List Op}, Srt l → Srt (ins x l)
  | [], _ => List.pairwise_singleton _ _
  | b :: l, h => by
    have h' := List.pairwise_cons.1 h
    unfold ins
    split
    · next hx =>
      refine List.pairwise_cons.2 ⟨fun y hy => ?_, h⟩
      rcases List.mem_cons.1 hy with rfl | hy
      · omega
      · have := h'.1 y hy; omega
    · next hx =>
      refine List.pairwise_cons.2 ⟨fun y hy => ?_, ins_srt x h'.2⟩
      rcases ins_mem hy with rfl | hy
      · omega
      · exact h'.1 y hy
theorem ins_flt (x : Op) : ∀ {l : List Op}, Srt l → Flt (l ++ [x]) (ins x l)
  | [], _ => fun v => rfl
  | b :: l, h => fun v => by
    have h' := List.pairwise_cons.1 h
    unfold ins
    split
    · next hx =>
      by_cases ev : x.1 = v
      · have hnone : ∀ q : List Op, (∀ y ∈ q, x.1 < y.1) → q.filter (fun o => o.1 == v) = [] := fun q hq => by
          rw [List.filter_eq_nil_iff]
          intro y hy
          have := hq y hy
          simp; omega
        have hall : ∀ y ∈ b :: l, x.1 < y.1 := fun y hy => by
          rcases List.mem_cons.1 hy with rfl | hy
          · exact hx
          · have := h'.1 y hy; omega
        rw [List.filter_append, List.filter_cons_of_pos (by simp [ev]), hnone _ hall, List.nil_append, List.filter_cons_of_pos (by simp [ev]), List.filter_nil]
      · rw [List.filter_append, List.filter_cons_of_neg (by simp [ev]), List.filter_cons_of_neg (p := fun o : Op => o.1 == v) (a := x) (by simp [ev]), List.filter_nil, List.append_nil]
    · have ih := ins_flt x h'.2 v
      rw [List.cons_append, List.filter_cons, List.filter_cons, ih]
theorem ins_len (x : Op) {l : List Op} (h : Srt l) : (ins x l).length = l.length + 1 := by rw [(ins_flt x h).len]; simp
/-- Options sorted. -/
def isort (l : List Op) : List Op := l.foldl (fun acc x => ins x acc) []
theorem isort_snoc (l : List Op) (x : Op) : isort (l ++ [x]) = ins x (isort l) := by simp [isort]
theorem isort_both (l : List Op) : Srt (isort l) ∧ Flt l (isort l) := by
  induction l using List.reverseRecOn' with
  | nil => exact ⟨List.Pairwise.nil, Flt.refl _⟩
  | snoc l x ih =>
    rw [isort_snoc]
    exact ⟨ins_srt x ih.1, (ih.2.app (Flt.refl [x])).trans (ins_flt x ih.1)⟩
where
  List.reverseRecOn' {motive : List Op → Prop} (l : List Op) (nil : motive []) (snoc : ∀ l x, motive l → motive (l ++ [x])) : motive l := by
    rw [← List.reverse_reverse l]
    induction l.reverse with
    | nil => exact nil
    | cons x l ih => rw [List.reverse_cons]; exact snoc _ _ ih
theorem isort_srt (l : List Op) : Srt (isort l) := (isort_both l).1
theorem isort_flt (l : List Op) : Flt l (isort l) := (isort_both l).2
theorem isort_len (l : List Op) : (isort l).length = l.length := (isort_flt l).len
theorem eq_isort {l m : List Op} (h : Srt m) (k : Flt l m) : m = isort l := uniq h (isort_srt l) (k.symm.trans (isort_flt l))
theorem isort_mem {l : List Op} {y : Op} : y ∈ isort l ↔ y ∈ l := (isort_flt l).perm.symm.mem_iff
/-- Two that stand side by side are exchanged. -/
theorem flt_swap (p s : List Op) {a b : Op} (h : a.1 ≠ b.1) : Flt (p ++ a :: b :: s) (p ++ b :: a :: s) := fun v => by
  rw [List.filter_append, List.filter_append]
  congr 1
  by_cases ea : a.1 = v
  · have eb : ¬ b.1 = v := by omega
    rw [List.filter_cons_of_neg (by simp [eb]), List.filter_cons_of_pos (by simp [ea]), List.filter_cons_of_pos (by simp [ea]), List.filter_cons_of_neg (by simp [eb])]
  · rw [List.filter_cons_of_neg (p := fun o : Op => o.1 == v) (a := a) (l := b :: s) (by simp [ea])]
    rw [List.filter_cons (x := b), List.filter_cons (x := b), List.filter_cons_of_neg (p := fun o : Op => o.1 == v) (a := a) (l := s) (by simp [ea])]
/-- Two blocks are exchanged. -/
theorem flt_blocks (U V : List Op) (h : ∀ u ∈ U, ∀ v ∈ V, v.1 < u.1) : Flt (U ++ V) (V ++ U) := fun v => by
  rw [List.filter_append, List.filter_append]
  by_cases hu : ∃ u ∈ U, u.1 = v
  · obtain ⟨u, hu, rfl⟩ := hu
    have : V.filter (fun o => o.1 == u.1) = [] := by
      rw [List.filter_eq_nil_iff]
      intro y hy
      have := h u hu y hy
      simp; omega
    rw [this]; simp
  · have : U.filter (fun o => o.1 == v) = [] := by
      rw [List.filter_eq_nil_iff]
      intro y hy
      simp
      exact fun e => hu ⟨y, hy, e⟩
    rw [this]; simp
theorem srt_app {U V : List Op} : Srt (U ++ V) ↔ Srt U ∧ Srt V ∧ ∀ u ∈ U, ∀ v ∈ V, u.1 ≤ v.1 := List.pairwise_append
end
section
variable {X : Type}
def cmpI (a b : Int) : Int := if a < b then -1 else if a > b then 1 else 0
theorem cmpI_neg (a b : Int) : decide (cmpI a b < 0) = decide (a < b) := decide_eq_decide.2 (by unfold cmpI; split <;> (try split) <;> omega)
theorem cmp_eq {k : Nat} (K : Int → Option X) (a b : Op) : f57 k K (opv a) (opv b) = K (cmpI a.1 b.1) := by
  have e : f57 k K (opv a) (opv b) = (bif (a.1 != a.1) then (bif (b.1 != b.1) then K 0 else K (-1)) else bif (b.1 != b.1) then K 1 else bif decide (a.1 < b.1) then K (-1) else bif decide (a.1 > b.1) then K 1 else K 0) := by kernel_rfl
  rw [e]
  simp only [bne_self_eq_false, cond_false, bif_dec]
  unfold cmpI
  split
  · rfl
  · split <;> rfl
theorem iterV_one {V : Type} (T : (V → Option X) → V → Option X) (k : Nat) (v : V) : iterV T (k + 1) v = T (iterV T k) v := rfl
theorem bAt {o : Option CV} {c : CV} (h : o = some c) (F : CV → Option X) : Option.bind o F = F c := by rw [h]; rfl
theorem ops_at (A : List Op) (x : Op) (B : List Op) : (ops (A ++ x :: B))[A.length]? = some (opv x) := by simp [ops]
theorem ops_at1 (A : List Op) (y x : Op) (B : List Op) : (ops (A ++ y :: x :: B))[A.length + 1]? = some (opv x) := by simp [ops]
theorem ops_swap (A : List Op) (y x : Op) (B : List Op) : ((ops (A ++ y :: x :: B)).set (A.length + 1) (opv y)).set A.length (opv x) = ops (A ++ x :: y :: B) := by simp [ops]
theorem fitO (o : Op) : (Nat.beq (CV.ncells (opv o)) 2 && CV.isAgg (opv o)) = true := rfl
/-- One step of the inner loop. -/
theorem ins2_step {k : Nat} (K : List CV → Option X) (rec1 : Nat × Int × Int × Int × List CV → Option X) (rec2 : Nat × Int × Int × Int × Int × List CV → Option X) (n a j : Nat) (b i : Int) (A : List Op) (x y : Op) (B : List Op) (hA : A.length = j) (hn : (A ++ y :: x :: B).length = n) (hn2 : n < 1000000) (ha : a ≤ j) :
    f63_T2 (fun X => @f57 X k) k K rec1 rec2 (n, (a : Int), b, i, ((j + 1 : Nat) : Int), ops (A ++ y :: x :: B)) =
      bif decide (x.1 < y.1) then rec2 (n, (a : Int), b, i, (j : Int), ops (A ++ x :: y :: B)) else rec1 (n, (a : Int), b, IntKind.wrap .i64 (i + 1), ops (A ++ y :: x :: B)) := by
  subst hA
  have hx := ops_at1 A y x B
  have hy := ops_at A y (x :: B)
  have hlen : A.length + 1 < n := by rw [← hn]; simp
  have hw : IntKind.wrap .i64 (((A.length + 1 : Nat) : Int) - 1) = (A.length : Int) := by rw [wrap64 (by omega) (by omega)]; omega
  unfold f63_T2
  dsimp only
  refine (bifT (decide_eq_true (by omega))).trans ?_
  refine (grdT (dec0 _)).trans ?_
  refine (grdT (decide_eq_true (by omega))).trans ?_
  simp only [hw, Int.toNat_natCast, Nat.zero_add]
  refine (bAt hx _).trans ?_
  refine (grdT (decide_eq_true (by omega))).trans ?_
  refine (grdT (decide_eq_true (by omega))).trans ?_
  refine (bAt hy _).trans ?_
  refine (cmp_eq _ x y).trans ?_
  have e := cmpI_neg x.1 y.1
  cases hc : decide (x.1 < y.1) with
  | false =>
    rw [hc] at e
    exact bifF e
  | true =>
    rw [hc] at e
    refine (bifT e).trans ?_
    refine (grdT (decide_eq_true (by omega))).trans ?_
    refine (grdT (decide_eq_true (by omega))).trans ?_
    refine (bAt hy _).trans ?_
    refine (grdT (decide_eq_true (by omega))).trans ?_
    refine (grdT (decide_eq_true (by omega))).trans ?_
    refine (bAt hx _).trans ?_
    refine (grdT (decide_eq_true (by omega))).trans ?_
    refine (grdT (decide_eq_true (by omega))).trans ?_
    refine (grdT (fitO y)).trans ?_
    refine (grdT (decide_eq_true (by rw [ops_length, hn]; omega))).trans ?_
    refine (grdT (decide_eq_true (by omega))).trans ?_
    refine (grdT (decide_eq_true (by omega))).trans ?_
    refine (grdT (fitO x)).trans ?_
    refine (grdT (decide_eq_true (by rw [List.length_set, ops_length, hn]; omega))).trans ?_
    rw [ops_swap]
    rfl
/-- The inner loop: the last of a sorted row goes to its place. -/
theorem ins2_eq {k : Nat} (K : List CV → Option X) (rec1 : Nat × Int × Int × Int × List CV → Option X) (n : Nat) (b i : Int) (P R : List Op) (x : Op) (M : List Op) (R0 : Option X) (hn2 : n < 1000000) (hr : rec1 (n, (P.length : Int), b, IntKind.wrap .i64 (i + 1), ops (P ++ isort (M ++ [x]) ++ R)) = R0) :
    ∀ (kk : Nat) (U Y : List Op), U.length < kk → (P ++ (U ++ x :: Y) ++ R).length = n → Srt (U ++ Y) → (∀ y ∈ Y, x.1 < y.1) → Flt M (U ++ Y) →
      iterV (f63_L2 (fun X => @f57 X k) k K rec1) kk (n, (P.length : Int), b, i, ((P.length + U.length : Nat) : Int), ops (P ++ (U ++ x :: Y) ++ R)) = R0
  | 0, U, Y, h, _, _, _, _ => absurd h (Nat.not_lt_zero _)
  | kk + 1, U, Y, h, hn, hs, hY, hf => by
    show f63_T2 (fun X => @f57 X k) k K rec1 (iterV (f63_L2 (fun X => @f57 X k) k K rec1) kk) (n, (P.length : Int), b, i, ((P.length + U.length : Nat) : Int), ops (P ++ (U ++ x :: Y) ++ R)) = R0
    have done : Srt (U ++ x :: Y) → rec1 (n, (P.length : Int), b, IntKind.wrap .i64 (i + 1), ops (P ++ (U ++ x :: Y) ++ R)) = R0 := fun hss => by
      rw [eq_isort (l := M ++ [x]) hss ?_]
      · exact hr
      · refine (hf.app (Flt.refl [x])).trans ?_
        rw [List.append_assoc]
        exact (Flt.refl U).app (by
          have := flt_blocks Y [x] (fun u hu v hv => by rw [List.mem_singleton.1 hv]; exact hY u hu)
          exact this)
    obtain ⟨hU, hYs, hUY⟩ := srt_app.1 hs
    rcases List.eq_nil_or_concat U with rfl | ⟨V, y, rfl⟩
    · unfold f63_T2
      dsimp only
      refine (bifF (decide_eq_false (by simp))).trans ?_
      refine done ?_
      exact List.pairwise_cons.2 ⟨fun z hz => Int.le_of_lt (hY z hz), hYs⟩
    · rw [List.concat_eq_append] at *
      have e1 : P ++ ((V ++ [y]) ++ x :: Y) ++ R = (P ++ V) ++ y :: x :: (Y ++ R) := by simp
      have e2 : (P ++ V) ++ x :: y :: (Y ++ R) = P ++ (V ++ x :: (y :: Y)) ++ R := by simp
      have e3 : P.length + (V ++ [y]).length = (P.length + V.length) + 1 := by simp; omega
      rw [e3]
      have step := ins2_step (k := k) K rec1 (iterV (f63_L2 (fun X => @f57 X k) k K rec1) kk) n P.length (P.length + V.length) b i (P ++ V) x y (Y ++ R) (by simp) (by rw [← e1]; exact hn) hn2 (by omega)
      rw [← e1] at step
      refine step.trans ?_
      cases hc : decide (x.1 < y.1) with
      | false =>
        refine done ?_
        have hyx : y.1 ≤ x.1 := by have := of_decide_eq_false hc; omega
        refine srt_app.2 ⟨hU, List.pairwise_cons.2 ⟨fun z hz => Int.le_of_lt (hY z hz), hYs⟩, fun u hu v hv => ?_⟩
        have huy : u.1 ≤ y.1 := by
          rcases List.mem_append.1 hu with hu' | hu'
          · exact (srt_app.1 hU).2.2 u hu' y (List.mem_singleton.2 rfl)
          · rw [List.mem_singleton.1 hu']; exact Int.le_refl _
        rcases List.mem_cons.1 hv with rfl | hv
        · omega
        · have := hY v hv; omega
      | true =>
        have hxy : x.1 < y.1 := of_decide_eq_true hc
        show iterV _ kk (n, (P.length : Int), b, i, ((P.length + V.length : Nat) : Int), ops ((P ++ V) ++ x :: y :: (Y ++ R))) = R0
        rw [e2]
        refine ins2_eq K rec1 n b i P R x M R0 hn2 hr kk V (y :: Y) (by simp at h; omega) ?_ ?_ ?_ ?_
        · rw [← e2, ← hn, e1]; simp
        · rw [show V ++ y :: Y = (V ++ [y]) ++ Y by simp]; exact hs
        · intro z hz
          rcases List.mem_cons.1 hz with rfl | hz
          · exact hxy
          · exact hY z hz
        · rw [show V ++ y :: Y = (V ++ [y]) ++ Y by simp]; exact hf
/-- Insertion sort of a part of a row. -/
theorem insSort_eq {k : Nat} (K : List CV → Option X) (P M R : List Op) (n : Nat) (hn : (P ++ M ++ R).length = n) (hn2 : n < 1000000) (hk : n < k) :
    f63 k K n (P.length : Int) ((P.length + M.length : Nat) : Int) (ops (P ++ M ++ R)) = K (ops (P ++ isort M ++ R)) := by
  have hlen : P.length + M.length + R.length = n := by rw [← hn]; simp; omega
  unfold f63 f63_A f63_T
  rw [wrap64_succ (by omega)]
  rcases Nat.eq_zero_or_pos M.length with h0 | h0
  · have hM : M = [] := List.eq_nil_of_length_eq_zero h0
    subst hM
    obtain ⟨k, rfl⟩ : ∃ j, k = j + 1 := ⟨k - 1, by omega⟩
    refine (iterV_one _ _ _).trans ?_
    unfold f63_L1
    unfold f63_T1
    exact bifF (decide_eq_false (by simp; omega))
  · have key := iterV_spec (T := f63_L1 (fun X => @f57 X k) k K) (fun j => (n, (P.length : Int), ((P.length + M.length : Nat) : Int), ((P.length + j : Nat) : Int), ops (P ++ (isort (M.take j) ++ M.drop j) ++ R)))
      (fun _ => K (ops (P ++ isort M ++ R))) M.length (fun j rec hj hr => by
        have ed : M.drop j = M[j] :: M.drop (j + 1) := List.drop_eq_getElem_cons hj
        have et : M.take (j + 1) = M.take j ++ [M[j]] := by rw [List.take_append_getElem hj]
        unfold f63_L1 f63_T1
        dsimp only
        refine (bifT (decide_eq_true (by omega))).trans ?_
        rw [ed]
        have e0 : P ++ (isort (M.take j) ++ M[j] :: M.drop (j + 1)) ++ R = P ++ (isort (M.take j) ++ M[j] :: []) ++ (M.drop (j + 1) ++ R) := by simp only [List.append_assoc, List.cons_append, List.nil_append]
        rw [e0]
        have ej : (isort (M.take j)).length = j := by rw [isort_len, List.length_take]; omega
        have := ins2_eq (k := k) K rec n ((P.length + M.length : Nat) : Int) ((P.length + j : Nat) : Int) P (M.drop (j + 1) ++ R) M[j] (M.take j) (K (ops (P ++ isort M ++ R))) hn2 (by
          have e5 : P ++ isort (M.take j ++ [M[j]]) ++ (M.drop (j + 1) ++ R) = P ++ (isort (M.take (j + 1)) ++ M.drop (j + 1)) ++ R := by rw [et]; simp
          rw [wrap64_succ (by omega), e5, show P.length + j + 1 = P.length + (j + 1) by omega]
          exact hr) k (isort (M.take j)) [] (by omega) (by rw [← e0, ← ed]; simp [isort_len]; omega) (by rw [List.append_nil]; exact isort_srt _) (fun y hy => by simp at hy) (by rw [List.append_nil]; exact isort_flt _)
        rw [ej] at this
        exact this) (fun rec => by
        unfold f63_L1 f63_T1
        dsimp only
        refine (bifF (decide_eq_false (by omega))).trans ?_
        simp) k 1 h0 (by omega)
    have e1 : P ++ (isort (M.take 1) ++ M.drop 1) ++ R = P ++ M ++ R := by
      cases M with
      | nil => simp at h0
      | cons a M => simp [isort, ins]
    rw [e1] at key
    exact key
end
section
variable {X : Type}
theorem nth2 (U : List Op) (x : Op) (V : List Op) (y : Op) (W : List Op) : (ops (U ++ x :: (V ++ y :: W)))[U.length + 1 + V.length]? = some (opv y) := by
  have e : U ++ x :: (V ++ y :: W) = (U ++ x :: V) ++ y :: W := by simp
  have h := ops_at (U ++ x :: V) y W
  rw [e]
  rwa [show (U ++ x :: V).length = U.length + 1 + V.length by simp; omega] at h
theorem set2 (U : List Op) (x : Op) (V : List Op) (y : Op) (W : List Op) : ((ops (U ++ x :: (V ++ y :: W))).set U.length (opv y)).set (U.length + 1 + V.length) (opv x) = ops (U ++ y :: (V ++ x :: W)) := by
  simp only [ops, List.map_append, List.map_cons]
  rw [List.set_append_right _ _ (by simp), List.length_map, Nat.sub_self, List.set_cons_zero, List.set_append_right _ _ (by simp; omega), List.length_map, show U.length + 1 + V.length - U.length = V.length + 1 by omega, List.set_cons_succ, List.set_append_right _ _ (by simp), List.length_map, Nat.sub_self, List.set_cons_zero]
/-- Two blocks of one length are exchanged. -/
theorem swapR_eq {k : Nat} (K : List CV → Option X) (A U B V C : List Op) (n : Nat) (hn : (A ++ U ++ B ++ V ++ C).length = n) (hn2 : n < 1000000) (hUV : V.length = U.length) (hk : n < k) :
    f66 k K n (A.length : Int) ((A.length + U.length + B.length : Nat) : Int) (U.length : Int) (ops (A ++ U ++ B ++ V ++ C)) = K (ops (A ++ V ++ B ++ U ++ C)) := by
  have hlen : A.length + U.length + B.length + V.length + C.length = n := by rw [← hn]; simp; omega
  unfold f66 f66_A f66_T
  have key := iterV_spec (T := f66_L1 k K) (fun i => (n, (A.length : Int), ((A.length + U.length + B.length : Nat) : Int), (U.length : Int), (i : Int), ops (A ++ (V.take i ++ U.drop i) ++ B ++ (U.take i ++ V.drop i) ++ C)))
    (fun _ => K (ops (A ++ V ++ B ++ U ++ C))) U.length (fun i rec hi hr => by
      have hv : i < V.length := by omega
      have ed : U.drop i = U[i] :: U.drop (i + 1) := List.drop_eq_getElem_cons hi
      have ed2 : V.drop i = V[i] :: V.drop (i + 1) := List.drop_eq_getElem_cons hv
      have et : U.take (i + 1) = U.take i ++ [U[i]] := by rw [List.take_append_getElem hi]
      have et2 : V.take (i + 1) = V.take i ++ [V[i]] := by rw [List.take_append_getElem hv]
      generalize hx : U[i] = x at ed et
      generalize hy : V[i] = y at ed2 et2
      have hu1 : (U.take i).length = i := by rw [List.length_take]; omega
      have hv1 : (V.take i).length = i := by rw [List.length_take]; omega
      have e0 : A ++ (V.take i ++ U.drop i) ++ B ++ (U.take i ++ V.drop i) ++ C = (A ++ V.take i) ++ x :: ((U.drop (i + 1) ++ B ++ U.take i) ++ y :: (V.drop (i + 1) ++ C)) := by
        rw [ed, ed2]; simp only [List.append_assoc, List.cons_append]
      have e1 : (A ++ V.take i) ++ y :: ((U.drop (i + 1) ++ B ++ U.take i) ++ x :: (V.drop (i + 1) ++ C)) = A ++ (V.take (i + 1) ++ U.drop (i + 1)) ++ B ++ (U.take (i + 1) ++ V.drop (i + 1)) ++ C := by
        rw [et, et2]; simp only [List.append_assoc, List.cons_append, List.nil_append]
      have p1 : A.length + i = (A ++ V.take i).length := by rw [List.length_append, hv1]
      have p2 : A.length + U.length + B.length + i = (A ++ V.take i).length + 1 + (U.drop (i + 1) ++ B ++ U.take i).length := by
        rw [← p1]; simp only [List.length_append, List.length_drop, hu1]; omega
      have w1 : IntKind.wrap .i64 ((A.length : Int) + (i : Int)) = (((A ++ V.take i).length : Nat) : Int) := by rw [wrap64 (by omega) (by omega), ← p1]; omega
      have w2 : IntKind.wrap .i64 (((A.length + U.length + B.length : Nat) : Int) + (i : Int)) = (((A ++ V.take i).length + 1 + (U.drop (i + 1) ++ B ++ U.take i).length : Nat) : Int) := by rw [wrap64 (by omega) (by omega), ← p2]; omega
      have a1 := ops_at (A ++ V.take i) x ((U.drop (i + 1) ++ B ++ U.take i) ++ y :: (V.drop (i + 1) ++ C))
      have a2 := nth2 (A ++ V.take i) x (U.drop (i + 1) ++ B ++ U.take i) y (V.drop (i + 1) ++ C)
      have hL : (ops ((A ++ V.take i) ++ x :: ((U.drop (i + 1) ++ B ++ U.take i) ++ y :: (V.drop (i + 1) ++ C)))).length = n := by
        rw [ops_length, ← e0, ← hn]; simp only [List.length_append, hu1, hv1, List.length_drop]; omega
      unfold f66_L1 f66_T1
      dsimp only
      refine (bifT (decide_eq_true (by omega))).trans ?_
      rw [e0]
      simp only [w1, w2, Int.toNat_natCast, Nat.zero_add]
      refine (grdT (dec0 _)).trans ?_
      refine (grdT (decide_eq_true (by rw [← p2]; omega))).trans ?_
      refine (bAt a2 _).trans ?_
      refine (grdT (dec0 _)).trans ?_
      refine (grdT (decide_eq_true (by rw [← p1]; omega))).trans ?_
      refine (bAt a1 _).trans ?_
      refine (grdT (dec0 _)).trans ?_
      refine (grdT (decide_eq_true (by rw [← p1]; omega))).trans ?_
      refine (grdT (fitO y)).trans ?_
      refine (grdT (decide_eq_true (by rw [hL, ← p1]; omega))).trans ?_
      refine (grdT (dec0 _)).trans ?_
      refine (grdT (decide_eq_true (by rw [← p2]; omega))).trans ?_
      refine (grdT (fitO x)).trans ?_
      refine (grdT (decide_eq_true (by rw [List.length_set, hL, ← p2]; omega))).trans ?_
      rw [set2, e1, wrap64_succ (by omega)]
      exact hr) (fun rec => by
      unfold f66_L1 f66_T1
      dsimp only
      refine (bifF (decide_eq_false (by omega))).trans ?_
      rw [List.drop_length, List.take_length, List.append_nil, ← hUV, List.take_length, List.drop_length, List.append_nil]) k 0 (Nat.zero_le _) (by omega)
  simpa using key
/-- Two blocks that stand side by side are exchanged. -/
theorem rotLoop {k : Nat} (K : List CV → Option X) (n : Nat) (hn2 : n < 1000000) (hk : n < k) : ∀ (kk : Nat) (A U V C : List Op), (A ++ U ++ V ++ C).length = n → 0 < U.length → 0 < V.length → U.length + V.length < kk →
    iterV (f65_L1 (fun X => @f66 X k) k K) kk (n, ((A.length + U.length : Nat) : Int), (U.length : Int), (V.length : Int), ops (A ++ U ++ V ++ C)) = K (ops (A ++ V ++ U ++ C))
  | 0, _, _, _, _, _, _, _, h => absurd h (Nat.not_lt_zero _)
  | kk + 1, A, U, V, C, hn, hU, hV, h => by
    have hlen : A.length + U.length + V.length + C.length = n := by rw [← hn]; simp; omega
    refine (iterV_one _ _ _).trans ?_
    generalize hT : iterV (f65_L1 (fun X => @f66 X k) k K) kk = rec
    unfold f65_L1 f65_T1
    dsimp only
    have w0 : IntKind.wrap .i64 (((A.length + U.length : Nat) : Int) - (U.length : Int)) = (A.length : Int) := by rw [wrap64 (by omega) (by omega)]; omega
    rw [w0]
    rcases Nat.lt_trichotomy U.length V.length with hc | hc | hc
    · refine (bifT (bne_t (by omega))).trans ?_
      refine (bifF (decide_eq_false (by omega))).trans ?_
      have w1 : IntKind.wrap .i64 (IntKind.wrap .i64 (((A.length + U.length : Nat) : Int) + (V.length : Int)) - (U.length : Int)) = ((A.length + U.length + (V.take (V.length - U.length)).length : Nat) : Int) := by
        rw [wrap64 (n := ((A.length + U.length : Nat) : Int) + (V.length : Int)) (by omega) (by omega), wrap64 (by omega) (by omega), List.length_take]; omega
      have w2 : IntKind.wrap .i64 ((V.length : Int) - (U.length : Int)) = (((V.take (V.length - U.length)).length : Nat) : Int) := by rw [wrap64 (by omega) (by omega), List.length_take]; omega
      rw [w1, w2]
      have e0 : A ++ U ++ V ++ C = A ++ U ++ V.take (V.length - U.length) ++ V.drop (V.length - U.length) ++ C := by
        conv => lhs; rw [← List.take_append_drop (V.length - U.length) V]
        simp only [List.append_assoc]
      have l2 : (V.drop (V.length - U.length)).length = U.length := by rw [List.length_drop]; omega
      rw [e0]
      refine (swapR_eq _ A U (V.take (V.length - U.length)) (V.drop (V.length - U.length)) C n (by rw [← e0]; exact hn) hn2 l2 hk).trans ?_
      have ih := rotLoop K n hn2 hk kk A (V.drop (V.length - U.length)) (V.take (V.length - U.length)) (U ++ C) (by simp only [List.length_append, l2, List.length_take]; omega) (by omega) (by rw [List.length_take]; omega) (by rw [l2, List.length_take]; omega)
      rw [hT, l2] at ih
      have e1 : A ++ V.drop (V.length - U.length) ++ V.take (V.length - U.length) ++ U ++ C = A ++ V.drop (V.length - U.length) ++ V.take (V.length - U.length) ++ (U ++ C) := by simp only [List.append_assoc]
      rw [e1]
      refine ih.trans ?_
      congr 2
      conv => rhs; rw [← List.take_append_drop (V.length - U.length) V]
      simp only [List.append_assoc]
    · refine (bifF (by rw [hc]; simp)).trans ?_
      have := swapR_eq (k := k) (fun u6 => K u6) A U [] V C n (by simpa using hn) hn2 hc.symm hk
      simpa using this
    · refine (bifT (bne_t (by omega))).trans ?_
      refine (bifT (decide_eq_true (by omega))).trans ?_
      have w2 : IntKind.wrap .i64 ((U.length : Int) - (V.length : Int)) = (((U.drop V.length).length : Nat) : Int) := by rw [wrap64 (by omega) (by omega), List.length_drop]; omega
      rw [w2]
      have e0 : A ++ U ++ V ++ C = A ++ U.take V.length ++ U.drop V.length ++ V ++ C := by
        conv => lhs; rw [← List.take_append_drop V.length U]
        simp only [List.append_assoc]
      have l1 : (U.take V.length).length = V.length := by rw [List.length_take]; omega
      have l2 : (U.drop V.length).length = U.length - V.length := List.length_drop ..
      rw [e0]
      have sw := swapR_eq (k := k) (fun u4 => rec (n, ((A.length + U.length : Nat) : Int), (((U.drop V.length).length : Nat) : Int), (V.length : Int), u4)) A (U.take V.length) (U.drop V.length) V C n (by rw [← e0]; exact hn) hn2 l1.symm hk
      rw [l1, show A.length + V.length + (U.drop V.length).length = A.length + U.length by rw [l2]; omega] at sw
      refine sw.trans ?_
      have ih := rotLoop K n hn2 hk kk (A ++ V) (U.drop V.length) (U.take V.length) C (by simp only [List.length_append, l2, l1]; omega) (by omega) (by omega) (by omega)
      rw [hT, l1, show (A ++ V).length + (U.drop V.length).length = A.length + U.length by rw [List.length_append, l2]; omega] at ih
      refine ih.trans ?_
      congr 2
      conv => rhs; rw [← List.take_append_drop V.length U]
      simp only [List.append_assoc]
theorem rotate_eq {k : Nat} (K : List CV → Option X) (A U V C : List Op) (n : Nat) (hn : (A ++ U ++ V ++ C).length = n) (hn2 : n < 1000000) (hk : n < k) (hU : 0 < U.length) (hV : 0 < V.length) :
    f65 k K n (A.length : Int) ((A.length + U.length : Nat) : Int) ((A.length + U.length + V.length : Nat) : Int) (ops (A ++ U ++ V ++ C)) = K (ops (A ++ V ++ U ++ C)) := by
  have hlen : A.length + U.length + V.length + C.length = n := by rw [← hn]; simp; omega
  unfold f65 f65_A f65_T
  rw [show IntKind.wrap .i64 (((A.length + U.length : Nat) : Int) - (A.length : Int)) = (U.length : Int) by rw [wrap64 (by omega) (by omega)]; omega,
    show IntKind.wrap .i64 (((A.length + U.length + V.length : Nat) : Int) - ((A.length + U.length : Nat) : Int)) = (V.length : Int) by rw [wrap64 (by omega) (by omega)]; omega]
  exact rotLoop K n hn2 hk k A U V C hn hU hV (by omega)
/-- A search by halves. -/
def bs (q : Nat → Bool) : Nat → Nat → Nat → Nat
  | 0, i, _ => i
  | f + 1, i, j => if i < j then (if q ((i + j) / 2) = true then bs q f ((i + j) / 2 + 1) j else bs q f i ((i + j) / 2)) else i
theorem bs_spec {q : Nat → Bool} : ∀ (f i j : Nat), (∀ c d, i ≤ c → c < d → d < j → q d = true → q c = true) → i ≤ j → j - i < f →
    i ≤ bs q f i j ∧ bs q f i j ≤ j ∧ (∀ c, i ≤ c → c < bs q f i j → q c = true) ∧ ∀ c, bs q f i j ≤ c → c < j → q c = false
  | 0, i, j, _, _, h => absurd h (Nat.not_lt_zero _)
  | f + 1, i, j, hm, hij, hf => by
    unfold bs
    split
    · next hlt =>
      split
      · next hq =>
        obtain ⟨h1, h2, h3, h4⟩ := bs_spec (q := q) f ((i + j) / 2 + 1) j (fun c d hc hcd hd => hm c d (by omega) hcd hd) (by omega) (by omega)
        refine ⟨by omega, h2, fun c hc hcb => ?_, h4⟩
        rcases Nat.lt_or_ge c ((i + j) / 2 + 1) with h5 | h5
        · rcases Nat.eq_or_lt_of_le (Nat.le_of_lt_succ h5) with h6 | h6
          · rw [h6]; exact hq
          · exact hm c _ hc h6 (by omega) hq
        · exact h3 c h5 hcb
      · next hq =>
        obtain ⟨h1, h2, h3, h4⟩ := bs_spec (q := q) f i ((i + j) / 2) (fun c d hc hcd hd => hm c d hc hcd (by omega)) (by omega) (by omega)
        refine ⟨h1, by omega, h3, fun c hc hcj => ?_⟩
        rcases Nat.lt_or_ge c ((i + j) / 2) with h5 | h5
        · exact h4 c hc h5
        · cases hqc : q c with
          | false => rfl
          | true =>
            rcases Nat.eq_or_lt_of_le h5 with h6 | h6
            · rw [h6] at hq; exact absurd hqc hq
            · exact absurd (hm _ c (by omega) h6 hcj hqc) hq
    · next hge => exact ⟨Nat.le_refl _, hij, fun c h1 h2 => by omega, fun c h1 h2 => by omega⟩
theorem bsLoop {V : Type} {T : (V → Option X) → V → Option X} (S : Nat → Nat → V) (q : Nat → Bool) (F : Nat → Option X) (lo hi : Nat)
    (hs : ∀ i j rec, lo ≤ i → i < j → j ≤ hi → T rec (S i j) = bif q ((i + j) / 2) then rec (S ((i + j) / 2 + 1) j) else rec (S i ((i + j) / 2)))
    (he : ∀ i rec, lo ≤ i → i ≤ hi → T rec (S i i) = F i) : ∀ (kk i j : Nat), lo ≤ i → i ≤ j → j ≤ hi → j - i < kk → iterV T kk (S i j) = F (bs q kk i j)
  | 0, i, j, _, _, _, h => absurd h (Nat.not_lt_zero _)
  | kk + 1, i, j, hl, hij, hh, h => by
    refine (iterV_one _ _ _).trans ?_
    unfold bs
    rcases Nat.lt_or_ge i j with hlt | hge
    · rw [if_pos hlt, hs i j _ hl hlt hh]
      cases q ((i + j) / 2) with
      | true => exact bsLoop S q F lo hi hs he kk _ j (by omega) (by omega) hh (by omega)
      | false => exact bsLoop S q F lo hi hs he kk i _ hl (by omega) (by omega) (by omega)
    · have : i = j := by omega
      subst this
      rw [if_neg (by omega)]
      exact he i _ hl (by omega)
theorem half_eq (i j : Nat) (h : i + j < 1000000000) : IntKind.wrap .i64 (Int.fdiv (IntKind.wrap .u64 (IntKind.wrap .i64 ((i : Int) + (j : Int)))) (2 ^ 1)) = (((i + j) / 2 : Nat) : Int) := by
  rw [wrap64 (n := (i : Int) + (j : Int)) (by omega) (by omega), wrapU64, fdiv_eq _ (by decide), wrap64 (by omega) (by omega)]
  omega
end
section
variable {X : Type}
/-- The element at a place. -/
def el (L : List Op) (c : Nat) : Op := (L[c]?).getD (0, [])
theorem el_get {L : List Op} {c : Nat} (h : c < L.length) : (ops L)[c]? = some (opv (el L c)) := by
  unfold ops el
  rw [List.getElem?_map, List.getElem?_eq_getElem h]; rfl
theorem el_mid (A M R : List Op) {i : Nat} (h : i < M.length) : el (A ++ M ++ R) (A.length + i) = M[i] := by
  unfold el
  rw [List.append_assoc, List.getElem?_append_right (by omega), Nat.add_sub_cancel_left, List.getElem?_append_left h, List.getElem?_eq_getElem h]; rfl
theorem el_srt (A M R : List Op) (hs : Srt M) {c d : Nat} (h1 : A.length ≤ c) (h2 : c ≤ d) (h3 : d < A.length + M.length) : (el (A ++ M ++ R) c).1 ≤ (el (A ++ M ++ R) d).1 := by
  obtain ⟨i, rfl⟩ : ∃ i, c = A.length + i := ⟨c - A.length, by omega⟩
  obtain ⟨j, rfl⟩ : ∃ j, d = A.length + j := ⟨d - A.length, by omega⟩
  rw [el_mid A M R (by omega), el_mid A M R (by omega)]
  rcases Nat.eq_or_lt_of_le h2 with e | e
  · have : i = j := by omega
    subst this; exact Int.le_refl _
  · exact List.pairwise_iff_getElem.1 hs i j (by omega) (by omega) (by omega)
theorem ops_swap' (A : List Op) (x y : Op) (B : List Op) : ((ops (A ++ x :: y :: B)).set A.length (opv y)).set (A.length + 1) (opv x) = ops (A ++ y :: x :: B) := by simp [ops]
variable (k : Nat) (Rm : f64_R)
/-- An element goes to the right. -/
theorem moveR (K : List CV → Option X) (n : Nat) (hn2 : n < 1000000) (x : Op) (A V R : List Op) (hn : (A ++ x :: V ++ R).length = n) (hk : n < k) :
    iterV (f64_L2 (fun X => @f57 X k) (fun X => @f65 X k) Rm k K) k (n, ((A.length + 1 + V.length : Nat) : Int), (A.length : Int), ops (A ++ x :: V ++ R)) = K (ops (A ++ V ++ x :: R)) := by
  have hlen : A.length + 1 + V.length + R.length = n := by rw [← hn]; simp; omega
  have key := iterV_spec (T := f64_L2 (fun X => @f57 X k) (fun X => @f65 X k) Rm k K) (fun i => (n, ((A.length + 1 + V.length : Nat) : Int), ((A.length + i : Nat) : Int), ops (A ++ V.take i ++ x :: V.drop i ++ R)))
    (fun _ => K (ops (A ++ V ++ x :: R))) V.length (fun i rec hi hr => by
      have ed : V.drop i = V[i] :: V.drop (i + 1) := List.drop_eq_getElem_cons hi
      have et : V.take (i + 1) = V.take i ++ [V[i]] := by rw [List.take_append_getElem hi]
      generalize V[i] = y at ed et
      have hv : (A ++ V.take i).length = A.length + i := by rw [List.length_append, List.length_take]; omega
      have e0 : A ++ V.take i ++ x :: V.drop i ++ R = (A ++ V.take i) ++ x :: y :: (V.drop (i + 1) ++ R) := by rw [ed]; simp only [List.append_assoc, List.cons_append]
      have e1 : (A ++ V.take i) ++ y :: x :: (V.drop (i + 1) ++ R) = A ++ V.take (i + 1) ++ x :: V.drop (i + 1) ++ R := by rw [et]; simp only [List.append_assoc, List.cons_append, List.nil_append]
      have a1 := ops_at (A ++ V.take i) x (y :: (V.drop (i + 1) ++ R))
      have a2 := ops_at1 (A ++ V.take i) x y (V.drop (i + 1) ++ R)
      have hL : (ops ((A ++ V.take i) ++ x :: y :: (V.drop (i + 1) ++ R))).length = n := by
        rw [ops_length, List.length_append, hv]; simp only [List.length_cons, List.length_append, List.length_drop]; omega
      have w1 : IntKind.wrap .i64 (((A.length + 1 + V.length : Nat) : Int) - 1) = ((A.length + V.length : Nat) : Int) := by rw [wrap64 (by omega) (by omega)]; omega
      have w2 : IntKind.wrap .i64 (((A.length + i : Nat) : Int) + 1) = ((A.length + i + 1 : Nat) : Int) := by rw [wrap64 (by omega) (by omega)]; omega
      have sw := ops_swap' (A ++ V.take i) x y (V.drop (i + 1) ++ R)
      rw [hv] at a1 a2 sw
      unfold f64_L2 f64_T2
      dsimp only
      rw [e0]
      simp only [w1, w2, Int.toNat_natCast, Nat.zero_add]
      refine (bifT (decide_eq_true (by omega))).trans ?_
      refine (grdT (dec0 _)).trans ?_
      refine (grdT (decide_eq_true (by omega))).trans ?_
      refine (bAt a2 _).trans ?_
      refine (grdT (dec0 _)).trans ?_
      refine (grdT (decide_eq_true (by omega))).trans ?_
      refine (bAt a1 _).trans ?_
      refine (grdT (dec0 _)).trans ?_
      refine (grdT (decide_eq_true (by omega))).trans ?_
      refine (grdT (fitO y)).trans ?_
      refine (grdT (decide_eq_true (by rw [hL]; omega))).trans ?_
      refine (grdT (dec0 _)).trans ?_
      refine (grdT (decide_eq_true (by omega))).trans ?_
      refine (grdT (fitO x)).trans ?_
      refine (grdT (decide_eq_true (by rw [List.length_set, hL]; omega))).trans ?_
      rw [sw, e1]
      exact hr) (fun rec => by
      unfold f64_L2 f64_T2
      dsimp only
      refine (bifF (decide_eq_false (by rw [wrap64 (by omega) (by omega)]; omega))).trans ?_
      simp) k 0 (Nat.zero_le _) (by omega)
  simpa using key
/-- An element goes to the left. -/
theorem moveL (K : List CV → Option X) (n : Nat) (hn2 : n < 1000000) (x : Op) (A R : List Op) : ∀ (kk : Nat) (V Y : List Op), (A ++ V ++ x :: (Y ++ R)).length = n → V.length < kk →
    iterV (f64_L4 (fun X => @f57 X k) (fun X => @f65 X k) Rm k K) kk (n, (A.length : Int), ((A.length + V.length : Nat) : Int), ops (A ++ V ++ x :: (Y ++ R))) = K (ops (A ++ x :: (V ++ Y) ++ R))
  | 0, V, Y, _, h => absurd h (Nat.not_lt_zero _)
  | kk + 1, V, Y, hn, h => by
    have hlen : A.length + V.length + 1 + Y.length + R.length = n := by rw [← hn]; simp; omega
    refine (iterV_one _ _ _).trans ?_
    rcases List.eq_nil_or_concat V with rfl | ⟨U, y, rfl⟩
    · unfold f64_L4 f64_T4
      dsimp only
      refine (bifF (decide_eq_false (by simp))).trans ?_
      simp
    · rw [List.concat_eq_append] at *
      have ih := moveL K n hn2 x A R kk U (y :: Y) (by rw [← hn]; simp) (by simp at h; omega)
      generalize iterV (f64_L4 (fun X => @f57 X k) (fun X => @f65 X k) Rm k K) kk = rec at ih ⊢
      have e0 : A ++ (U ++ [y]) ++ x :: (Y ++ R) = (A ++ U) ++ y :: x :: (Y ++ R) := by simp
      have hv : (A ++ U).length = A.length + U.length := List.length_append ..
      have a1 := ops_at (A ++ U) y (x :: (Y ++ R))
      have a2 := ops_at1 (A ++ U) y x (Y ++ R)
      have sw := ops_swap (A ++ U) y x (Y ++ R)
      rw [hv] at a1 a2 sw
      have hUl : (U ++ [y]).length = U.length + 1 := by simp
      rw [hUl] at hlen
      have hL : (ops ((A ++ U) ++ y :: x :: (Y ++ R))).length = n := by rw [ops_length, ← e0]; exact hn
      have w1 : IntKind.wrap .i64 (((A.length + (U.length + 1) : Nat) : Int) - 1) = ((A.length + U.length : Nat) : Int) := by rw [wrap64 (by omega) (by omega)]; omega
      rw [hUl]
      unfold f64_L4 f64_T4
      dsimp only
      rw [e0]
      simp only [w1, Int.toNat_natCast, Nat.zero_add]
      refine (bifT (decide_eq_true (by omega))).trans ?_
      refine (grdT (dec0 _)).trans ?_
      refine (grdT (decide_eq_true (by omega))).trans ?_
      refine (bAt a1 _).trans ?_
      refine (grdT (dec0 _)).trans ?_
      refine (grdT (decide_eq_true (by omega))).trans ?_
      refine (bAt a2 _).trans ?_
      refine (grdT (dec0 _)).trans ?_
      refine (grdT (decide_eq_true (by omega))).trans ?_
      refine (grdT (fitO y)).trans ?_
      refine (grdT (decide_eq_true (by rw [hL]; omega))).trans ?_
      refine (grdT (dec0 _)).trans ?_
      refine (grdT (decide_eq_true (by omega))).trans ?_
      refine (grdT (fitO x)).trans ?_
      refine (grdT (decide_eq_true (by rw [List.length_set, hL]; omega))).trans ?_
      rw [show A.length + (U.length + 1) = A.length + U.length + 1 from rfl, sw]
      have e2 : (A ++ U) ++ x :: y :: (Y ++ R) = A ++ U ++ x :: ((y :: Y) ++ R) := by simp
      rw [e2]
      refine ih.trans ?_
      simp
theorem allQ {A M R : List Op} {q : Op → Bool} {t : Nat} (h : ∀ c, A.length ≤ c → c < t → q (el (A ++ M ++ R) c) = true) (ht : t ≤ A.length + M.length) : ∀ v ∈ M.take (t - A.length), q v = true := fun v hv => by
  obtain ⟨i, hi, rfl⟩ := List.mem_iff_getElem.1 hv
  rw [List.length_take] at hi
  rw [List.getElem_take]
  have := h (A.length + i) (by omega) (by omega)
  rwa [el_mid A M R (by omega)] at this
theorem allN {A M R : List Op} {q : Op → Bool} {t : Nat} (h : ∀ c, t ≤ c → c < A.length + M.length → q (el (A ++ M ++ R) c) = false) (ht : A.length ≤ t) : ∀ v ∈ M.drop (t - A.length), q v = false := fun v hv => by
  obtain ⟨i, hi, rfl⟩ := List.mem_iff_getElem.1 hv
  rw [List.length_drop] at hi
  rw [List.getElem_drop]
  have := h (A.length + (t - A.length + i)) (by omega) (by omega)
  rwa [el_mid A M R (by omega)] at this
/-- One element, and a sorted row behind it. -/
theorem merge1 (K : List CV → Option X) (n : Nat) (hn2 : n < 1000000) (x : Op) (A M R : List Op) (hn : (A ++ [x] ++ M ++ R).length = n) (hk : n < k) (hs : Srt M) :
    iterV (f64_L1 (fun X => @f57 X k) (fun X => @f65 X k) Rm k K) k (n, (A.length : Int), ((A.length + 1 : Nat) : Int), ((A.length + 1 + M.length : Nat) : Int), ops (A ++ [x] ++ M ++ R)) = K (ops (A ++ isort ([x] ++ M) ++ R)) := by
  have hlen : A.length + 1 + M.length + R.length = n := by rw [← hn]; simp; omega
  have hAx : (A ++ [x]).length = A.length + 1 := by simp
  have hLn : (A ++ [x] ++ M ++ R).length = n := hn
  have hL' : (ops (A ++ [x] ++ M ++ R)).length = n := by rw [ops_length]; exact hn
  have ax : (ops (A ++ [x] ++ M ++ R))[A.length]? = some (opv x) := by
    have := ops_at A x (M ++ R)
    simpa using this
  refine (bsLoop (fun i j => (n, (A.length : Int), (i : Int), (j : Int), ops (A ++ [x] ++ M ++ R))) (fun c => decide ((el (A ++ [x] ++ M ++ R) c).1 < x.1))
    (fun t => iterV (f64_L2 (fun X => @f57 X k) (fun X => @f65 X k) Rm k K) k (n, (t : Int), (A.length : Int), ops (A ++ [x] ++ M ++ R))) (A.length + 1) (A.length + 1 + M.length) (fun i j rec h1 h2 h3 => ?_) (fun i rec h1 h2 => ?_) k (A.length + 1) (A.length + 1 + M.length) (Nat.le_refl _) (by omega) (Nat.le_refl _) (by omega)).trans ?_
  · unfold f64_L1 f64_T1
    dsimp only
    refine (bifT (decide_eq_true (by omega))).trans ?_
    rw [half_eq _ _ (by omega)]
    simp only [Int.toNat_natCast, Nat.zero_add]
    refine (grdT (dec0 _)).trans ?_
    refine (grdT (decide_eq_true (by omega))).trans ?_
    refine (bAt (el_get (by rw [hLn]; omega)) _).trans ?_
    refine (grdT (dec0 _)).trans ?_
    refine (grdT (decide_eq_true (by omega))).trans ?_
    refine (bAt ax _).trans ?_
    refine (cmp_eq _ _ _).trans ?_
    have e := cmpI_neg (el (A ++ [x] ++ M ++ R) ((i + j) / 2)).1 x.1
    cases hc : decide ((el (A ++ [x] ++ M ++ R) ((i + j) / 2)).1 < x.1) with
    | true =>
      rw [hc] at e
      refine (bifT e).trans ?_
      rw [wrap64_succ (by omega)]; rfl
    | false => rw [hc] at e; exact bifF e
  · unfold f64_L1 f64_T1
    dsimp only
    exact bifF (decide_eq_false (by omega))
  · obtain ⟨t1, t2, t3, t4⟩ := bs_spec (q := fun c => decide ((el (A ++ [x] ++ M ++ R) c).1 < x.1)) k (A.length + 1) (A.length + 1 + M.length) (fun c d hc hcd hd hq => by
      have := el_srt (A ++ [x]) M R hs (c := c) (d := d) (by omega) (by omega) (by omega)
      simp only [decide_eq_true_eq] at hq ⊢
      omega) (by omega) (by omega)
    generalize bs (fun c => decide ((el (A ++ [x] ++ M ++ R) c).1 < x.1)) k (A.length + 1) (A.length + 1 + M.length) = t at t1 t2 t3 t4
    have v1 := allQ (A := A ++ [x]) (M := M) (R := R) (q := fun o => decide (o.1 < x.1)) (t := t) (fun c h1 h2 => t3 c (by omega) h2) (by omega)
    have v2 := allN (A := A ++ [x]) (M := M) (R := R) (q := fun o => decide (o.1 < x.1)) (t := t) (fun c h1 h2 => t4 c h1 (by omega)) (by omega)
    rw [hAx] at v1 v2
    have hl : (M.take (t - (A.length + 1))).length = t - (A.length + 1) := by rw [List.length_take]; omega
    have e0 : A ++ [x] ++ M ++ R = A ++ x :: M.take (t - (A.length + 1)) ++ (M.drop (t - (A.length + 1)) ++ R) := by
      conv => lhs; rw [← List.take_append_drop (t - (A.length + 1)) M]
      simp only [List.append_assoc, List.cons_append, List.nil_append]
    rw [e0] at hLn ⊢
    have mv := moveR k Rm K n hn2 x A (M.take (t - (A.length + 1))) (M.drop (t - (A.length + 1)) ++ R) hLn hk
    rw [hl, show A.length + 1 + (t - (A.length + 1)) = t by omega] at mv
    refine mv.trans ?_
    congr 2
    have hsV : Srt (M.take (t - (A.length + 1)) ++ M.drop (t - (A.length + 1))) := by rw [List.take_append_drop]; exact hs
    obtain ⟨s1, s2, s3⟩ := srt_app.1 hsV
    have hm : M.take (t - (A.length + 1)) ++ x :: M.drop (t - (A.length + 1)) = isort ([x] ++ M) := by
      refine eq_isort (srt_app.2 ⟨s1, List.pairwise_cons.2 ⟨fun z hz => ?_, s2⟩, fun u hu v hv => ?_⟩) ?_
      · have := v2 z hz; simp at this; exact this
      · have := v1 u hu
        simp only [decide_eq_true_eq] at this
        rcases List.mem_cons.1 hv with rfl | hv
        · omega
        · exact s3 u hu v hv
      · have := flt_blocks [x] (M.take (t - (A.length + 1))) (fun u hu v hv => by
          have h := v1 v hv
          simp only [decide_eq_true_eq] at h
          rw [List.mem_singleton.1 hu]; exact h)
        have h2 := this.app (Flt.refl (M.drop (t - (A.length + 1))))
        simpa using h2
    rw [← hm]
    simp
/-- A sorted row, and one element behind it. -/
theorem merge2 (K : List CV → Option X) (n : Nat) (hn2 : n < 1000000) (x : Op) (A M R : List Op) (hn : (A ++ M ++ [x] ++ R).length = n) (hk : n < k) (hs : Srt M) :
    iterV (f64_L3 (fun X => @f57 X k) (fun X => @f65 X k) Rm k K) k (n, ((A.length + M.length : Nat) : Int), (A.length : Int), ((A.length + M.length : Nat) : Int), ops (A ++ M ++ [x] ++ R)) = K (ops (A ++ isort (M ++ [x]) ++ R)) := by
  have hlen : A.length + M.length + 1 + R.length = n := by rw [← hn]; simp; omega
  have eL : A ++ M ++ [x] ++ R = A ++ M ++ (x :: R) := by simp
  rw [eL] at hn ⊢
  have hLn : (A ++ M ++ (x :: R)).length = n := hn
  have ax : (ops (A ++ M ++ (x :: R)))[A.length + M.length]? = some (opv x) := by
    have := ops_at (A ++ M) x R
    rwa [List.length_append] at this
  refine (bsLoop (fun i j => (n, ((A.length + M.length : Nat) : Int), (i : Int), (j : Int), ops (A ++ M ++ (x :: R)))) (fun c => !(decide (x.1 < (el (A ++ M ++ (x :: R)) c).1)))
    (fun t => iterV (f64_L4 (fun X => @f57 X k) (fun X => @f65 X k) Rm k K) k (n, (t : Int), ((A.length + M.length : Nat) : Int), ops (A ++ M ++ (x :: R)))) A.length (A.length + M.length) (fun i j rec h1 h2 h3 => ?_) (fun i rec h1 h2 => ?_) k A.length (A.length + M.length) (Nat.le_refl _) (by omega) (Nat.le_refl _) (by omega)).trans ?_
  · unfold f64_L3 f64_T3
    dsimp only
    refine (bifT (decide_eq_true (by omega))).trans ?_
    rw [half_eq _ _ (by omega)]
    simp only [Int.toNat_natCast, Nat.zero_add]
    refine (grdT (dec0 _)).trans ?_
    refine (grdT (decide_eq_true (by omega))).trans ?_
    refine (bAt ax _).trans ?_
    refine (grdT (dec0 _)).trans ?_
    refine (grdT (decide_eq_true (by omega))).trans ?_
    refine (bAt (el_get (by rw [hLn]; omega)) _).trans ?_
    refine (cmp_eq _ _ _).trans ?_
    have e := cmpI_neg x.1 (el (A ++ M ++ (x :: R)) ((i + j) / 2)).1
    cases hc : decide (x.1 < (el (A ++ M ++ (x :: R)) ((i + j) / 2)).1) with
    | true =>
      rw [hc] at e
      exact bifF (by rw [e]; rfl)
    | false =>
      rw [hc] at e
      refine (bifT (by rw [e]; rfl)).trans ?_
      rw [wrap64_succ (by omega)]; rfl
  · unfold f64_L3 f64_T3
    dsimp only
    exact bifF (decide_eq_false (by omega))
  · obtain ⟨t1, t2, t3, t4⟩ := bs_spec (q := fun c => !(decide (x.1 < (el (A ++ M ++ (x :: R)) c).1))) k A.length (A.length + M.length) (fun c d hc hcd hd hq => by
      have := el_srt A M (x :: R) hs (c := c) (d := d) (by omega) (by omega) (by omega)
      simp only [Bool.not_eq_true', decide_eq_false_iff_not] at hq ⊢
      omega) (by omega) (by omega)
    generalize bs (fun c => !(decide (x.1 < (el (A ++ M ++ (x :: R)) c).1))) k A.length (A.length + M.length) = t at t1 t2 t3 t4
    have v1 := allQ (A := A) (M := M) (R := x :: R) (q := fun o => !(decide (x.1 < o.1))) (t := t) (fun c h1 h2 => t3 c h1 h2) t2
    have v2 := allN (A := A) (M := M) (R := x :: R) (q := fun o => !(decide (x.1 < o.1))) (t := t) (fun c h1 h2 => t4 c h1 h2) t1
    have hl : (M.take (t - A.length)).length = t - A.length := by rw [List.length_take]; omega
    have hl2 : (M.drop (t - A.length)).length = M.length - (t - A.length) := List.length_drop ..
    have e0 : A ++ M ++ (x :: R) = (A ++ M.take (t - A.length)) ++ M.drop (t - A.length) ++ x :: ([] ++ R) := by
      conv => lhs; rw [← List.take_append_drop (t - A.length) M]
      simp only [List.append_assoc, List.nil_append]
    rw [e0] at hLn ⊢
    have mv := moveL k Rm K n hn2 x (A ++ M.take (t - A.length)) R k (M.drop (t - A.length)) [] hLn (by omega)
    rw [List.length_append, hl, hl2, show A.length + (t - A.length) = t by omega, show t + (M.length - (t - A.length)) = A.length + M.length by omega] at mv
    refine mv.trans ?_
    congr 2
    have hsV : Srt (M.take (t - A.length) ++ M.drop (t - A.length)) := by rw [List.take_append_drop]; exact hs
    obtain ⟨s1, s2, s3⟩ := srt_app.1 hsV
    have hm : M.take (t - A.length) ++ x :: M.drop (t - A.length) = isort (M ++ [x]) := by
      refine eq_isort (srt_app.2 ⟨s1, List.pairwise_cons.2 ⟨fun z hz => ?_, s2⟩, fun u hu v hv => ?_⟩) ?_
      · have := v2 z hz; simp at this; omega
      · have := v1 u hu
        simp only [Bool.not_eq_true', decide_eq_false_iff_not] at this
        rcases List.mem_cons.1 hv with rfl | hv
        · omega
        · exact s3 u hu v hv
      · have := flt_blocks (M.drop (t - A.length)) [x] (fun u hu v hv => by
          have h := v2 u hu
          simp at h
          rw [List.mem_singleton.1 hv]; exact h)
        have h2 := (Flt.refl (M.take (t - A.length))).app this
        rw [← List.append_assoc, List.take_append_drop] at h2
        simpa using h2
    rw [← hm]
    simp
end
section
variable {X : Type}
theorem take_el {A M R : List Op} {j : Nat} {u : Op} (h : u ∈ M.take j) : ∃ c, A.length ≤ c ∧ c < A.length + j ∧ c < A.length + M.length ∧ u = el (A ++ M ++ R) c := by
  obtain ⟨i, hi, rfl⟩ := List.mem_iff_getElem.1 h
  rw [List.length_take] at hi
  exact ⟨A.length + i, by omega, by omega, by omega, by rw [List.getElem_take, el_mid A M R (by omega)]⟩
theorem drop_el {A M R : List Op} {j : Nat} {u : Op} (h : u ∈ M.drop j) : ∃ c, A.length + j ≤ c ∧ c < A.length + M.length ∧ u = el (A ++ M ++ R) c := by
  obtain ⟨i, hi, rfl⟩ := List.mem_iff_getElem.1 h
  rw [List.length_drop] at hi
  exact ⟨A.length + (j + i), by omega, by omega, by rw [List.getElem_drop, el_mid A M R (by omega)]⟩
/-- Halves that stand as they shall are merged each by itself. -/
theorem halves {M1 M2 : List Op} {i j : Nat} (h1 : Srt M1) (h2 : Srt M2) (hAB : ∀ u ∈ M1.take i, ∀ v ∈ M2.drop j, u.1 ≤ v.1) (hBA : ∀ u ∈ M2.take j, ∀ v ∈ M1.drop i, u.1 < v.1) :
    isort (M1.take i ++ M2.take j) ++ isort (M1.drop i ++ M2.drop j) = isort (M1 ++ M2) := by
  have s1 : Srt (M1.take i ++ M1.drop i) := by rw [List.take_append_drop]; exact h1
  have s2 : Srt (M2.take j ++ M2.drop j) := by rw [List.take_append_drop]; exact h2
  refine eq_isort (srt_app.2 ⟨isort_srt _, isort_srt _, fun u hu v hv => ?_⟩) ?_
  · rw [isort_mem] at hu hv
    rcases List.mem_append.1 hu with hu | hu <;> rcases List.mem_append.1 hv with hv | hv
    · exact (srt_app.1 s1).2.2 u hu v hv
    · exact hAB u hu v hv
    · exact Int.le_of_lt (hBA u hu v hv)
    · exact (srt_app.1 s2).2.2 u hu v hv
  · have f1 : Flt (M1 ++ M2) ((M1.take i ++ M2.take j) ++ (M1.drop i ++ M2.drop j)) := by
      have := ((Flt.refl (M1.take i)).app (flt_blocks (M1.drop i) (M2.take j) (fun u hu v hv => hBA v hv u hu))).app (Flt.refl (M2.drop j))
      have e1 : M1.take i ++ (M1.drop i ++ M2.take j) ++ M2.drop j = M1 ++ M2 := by
        rw [← List.append_assoc, List.take_append_drop, List.append_assoc, List.take_append_drop]
      have e2 : M1.take i ++ (M2.take j ++ M1.drop i) ++ M2.drop j = (M1.take i ++ M2.take j) ++ (M1.drop i ++ M2.drop j) := by simp only [List.append_assoc]
      rwa [e1, e2] at this
    exact f1.trans ((isort_flt _).app (isort_flt _))
theorem isort_of {l : List Op} (h : Srt l) : isort l = l := (eq_isort h (Flt.refl l)).symm
abbrev SyS := Nat × Int × Int × Int × Int × Int × Int × Int × Int × List CV
/-- Behind the search: the blocks are exchanged, the halves merged. -/
theorem symTail (k : Nat) (K : List CV → Option X) (n : Nat) (hn2 : n < 1000000) (A M1 M2 R : List Op) (hn : (A ++ M1 ++ M2 ++ R).length = n) (hk : n < k)
    (ih : ∀ (A M1 M2 R : List Op) (K : List CV → Option X), (A ++ M1 ++ M2 ++ R).length = n → Srt M1 → Srt M2 → 0 < M1.length → 0 < M2.length → n + M1.length + M2.length + 3 < k → f64_r k X K n (A.length : Int) ((A.length + M1.length : Nat) : Int) ((A.length + M1.length + M2.length : Nat) : Int) (ops (A ++ M1 ++ M2 ++ R)) = K (ops (A ++ isort (M1 ++ M2) ++ R)))
    (h1 : Srt M1) (h2 : Srt M2) (hkk : n + M1.length + M2.length + 2 < k) (rec : SyS → Option X) (mid t i j : Nat) (hi : i ≤ M1.length) (hj : j ≤ M2.length) (ht : t = A.length + i) (hmid : mid = t + j) (hmm : mid < A.length + M1.length + M2.length) (hma : A.length < mid)
    (hAB : ∀ u ∈ M1.take i, ∀ v ∈ M2.drop j, u.1 ≤ v.1) (hBA : ∀ u ∈ M2.take j, ∀ v ∈ M1.drop i, u.1 < v.1) (p : Int) :
    f64_T5 (fun X => @f57 X k) (fun X => @f65 X k) (f64_r k) k K rec (n, (A.length : Int), ((A.length + M1.length : Nat) : Int), ((A.length + M1.length + M2.length : Nat) : Int), (mid : Int), ((mid + (A.length + M1.length) : Nat) : Int), (t : Int), (t : Int), p, ops (A ++ M1 ++ M2 ++ R)) = K (ops (A ++ isort (M1 ++ M2) ++ R)) := by
  have hlen : A.length + M1.length + M2.length + R.length = n := by rw [← hn]; simp; omega
  have s1 : Srt (M1.take i ++ M1.drop i) := by rw [List.take_append_drop]; exact h1
  have s2 : Srt (M2.take j ++ M2.drop j) := by rw [List.take_append_drop]; exact h2
  have fin := halves h1 h2 hAB hBA
  have l1 : (M1.take i).length = i := by rw [List.length_take]; omega
  have l2 : (M1.drop i).length = M1.length - i := List.length_drop ..
  have l3 : (M2.take j).length = j := by rw [List.length_take]; omega
  have l4 : (M2.drop j).length = M2.length - j := List.length_drop ..
  have e0 : A ++ M1 ++ M2 ++ R = (A ++ M1.take i) ++ M1.drop i ++ M2.take j ++ (M2.drop j ++ R) := by
    conv => lhs; rw [← List.take_append_drop i M1, ← List.take_append_drop j M2]
    simp only [List.append_assoc]
  generalize hA1 : M1.take i = A1 at *
  generalize hA2 : M1.drop i = A2 at *
  generalize hB1 : M2.take j = B1 at *
  generalize hB2 : M2.drop j = B2 at *
  have we : IntKind.wrap .i64 (((mid + (A.length + M1.length) : Nat) : Int) - (t : Int)) = ((A.length + M1.length + j : Nat) : Int) := by rw [wrap64 (by omega) (by omega)]; omega
  -- the right half
  have right : f64_J1 (fun X => @f57 X k) (fun X => @f65 X k) (f64_r k) k K (n, (A.length : Int), ((A.length + M1.length : Nat) : Int), ((A.length + M1.length + M2.length : Nat) : Int), (mid : Int), ((mid + (A.length + M1.length) : Nat) : Int), (t : Int), (t : Int), p, ops (A ++ M1 ++ M2 ++ R)) (ops ((A ++ isort (A1 ++ B1)) ++ A2 ++ B2 ++ R)) = K (ops (A ++ isort (M1 ++ M2) ++ R)) := by
    have hA' : (A ++ isort (A1 ++ B1)).length = mid := by rw [List.length_append, isort_len, List.length_append, l1, l3]; omega
    have goal : isort (A2 ++ B2) = A2 ++ B2 → K (ops ((A ++ isort (A1 ++ B1)) ++ A2 ++ B2 ++ R)) = K (ops (A ++ isort (M1 ++ M2) ++ R)) := fun e => by
      rw [← fin, e]; simp only [List.append_assoc]
    unfold f64_J1
    dsimp only
    rw [we]
    by_cases c1 : i < M1.length
    · refine (bifT (decide_eq_true (by omega))).trans ?_
      by_cases c2 : j < M2.length
      · refine (bifT (decide_eq_true (by omega))).trans ?_
        have := ih (A ++ isort (A1 ++ B1)) A2 B2 R (fun u45 => K u45) (by simp only [List.length_append, isort_len, l1, l2, l3, l4]; omega) (srt_app.1 s1).2.1 (srt_app.1 s2).2.1 (by omega) (by omega) (by omega)
        rw [hA', l2, l4, show mid + (M1.length - i) = A.length + M1.length + j by omega, show A.length + M1.length + j + (M2.length - j) = A.length + M1.length + M2.length by omega] at this
        refine this.trans ?_
        rw [← fin]; simp only [List.append_assoc]
      · refine (bifF (decide_eq_false (by omega))).trans ?_
        refine goal (isort_of ?_)
        rw [List.eq_nil_of_length_eq_zero (show B2.length = 0 by omega), List.append_nil]
        exact (srt_app.1 s1).2.1
    · refine (bifF (decide_eq_false (by omega))).trans ?_
      refine goal (isort_of ?_)
      rw [List.eq_nil_of_length_eq_zero (show A2.length = 0 by omega), List.nil_append]
      exact (srt_app.1 s2).2.1
  -- the left half
  have left : f64_J2 (fun X => @f57 X k) (fun X => @f65 X k) (f64_r k) k K (n, (A.length : Int), ((A.length + M1.length : Nat) : Int), ((A.length + M1.length + M2.length : Nat) : Int), (mid : Int), ((mid + (A.length + M1.length) : Nat) : Int), (t : Int), (t : Int), p, ops (A ++ M1 ++ M2 ++ R)) (ops (A ++ A1 ++ B1 ++ (A2 ++ B2 ++ R))) = K (ops (A ++ isort (M1 ++ M2) ++ R)) := by
    have goal : isort (A1 ++ B1) = A1 ++ B1 → ops (A ++ A1 ++ B1 ++ (A2 ++ B2 ++ R)) = ops ((A ++ isort (A1 ++ B1)) ++ A2 ++ B2 ++ R) := fun e => by rw [e]; simp only [List.append_assoc]
    unfold f64_J2
    dsimp only
    by_cases c1 : 0 < i
    · refine (bifT (decide_eq_true (by omega))).trans ?_
      by_cases c2 : 0 < j
      · refine (bifT (decide_eq_true (by omega))).trans ?_
        have := ih A A1 B1 (A2 ++ B2 ++ R) (fun u46 => f64_J1 (fun X => @f57 X k) (fun X => @f65 X k) (f64_r k) k K (n, (A.length : Int), ((A.length + M1.length : Nat) : Int), ((A.length + M1.length + M2.length : Nat) : Int), (mid : Int), ((mid + (A.length + M1.length) : Nat) : Int), (t : Int), (t : Int), p, ops (A ++ M1 ++ M2 ++ R)) u46) (by simp only [List.length_append, l1, l2, l3, l4]; omega) (srt_app.1 s1).1 (srt_app.1 s2).1 (by omega) (by omega) (by omega)
        rw [l1, l3, ← ht, ← hmid] at this
        refine this.trans ?_
        have e : A ++ isort (A1 ++ B1) ++ (A2 ++ B2 ++ R) = (A ++ isort (A1 ++ B1)) ++ A2 ++ B2 ++ R := by simp only [List.append_assoc]
        rw [e]
        exact right
      · refine (bifF (decide_eq_false (by omega))).trans ?_
        rw [goal (isort_of (by rw [List.eq_nil_of_length_eq_zero (show B1.length = 0 by omega), List.append_nil]; exact (srt_app.1 s1).1))]
        exact right
    · refine (bifF (decide_eq_false (by omega))).trans ?_
      rw [goal (isort_of (by rw [List.eq_nil_of_length_eq_zero (show A1.length = 0 by omega), List.nil_append]; exact (srt_app.1 s2).1))]
      exact right
  unfold f64_T5
  dsimp only
  refine (bifF (decide_eq_false (by omega))).trans ?_
  rw [we]
  have same : ∀ Z : List CV, Z = ops (A ++ A1 ++ B1 ++ (A2 ++ B2 ++ R)) → f64_J2 (fun X => @f57 X k) (fun X => @f65 X k) (f64_r k) k K (n, (A.length : Int), ((A.length + M1.length : Nat) : Int), ((A.length + M1.length + M2.length : Nat) : Int), (mid : Int), ((mid + (A.length + M1.length) : Nat) : Int), (t : Int), (t : Int), p, ops (A ++ M1 ++ M2 ++ R)) Z = K (ops (A ++ isort (M1 ++ M2) ++ R)) := fun Z e => by rw [e]; exact left
  by_cases c1 : i < M1.length
  · refine (bifT (decide_eq_true (by omega))).trans ?_
    by_cases c2 : 0 < j
    · refine (bifT (decide_eq_true (by omega))).trans ?_
      have hr := rotate_eq (k := k) (fun u47 => f64_J2 (fun X => @f57 X k) (fun X => @f65 X k) (f64_r k) k K (n, (A.length : Int), ((A.length + M1.length : Nat) : Int), ((A.length + M1.length + M2.length : Nat) : Int), (mid : Int), ((mid + (A.length + M1.length) : Nat) : Int), (t : Int), (t : Int), p, ops (A ++ M1 ++ M2 ++ R)) u47) (A ++ A1) A2 B1 (B2 ++ R) n (by rw [← e0]; exact hn) hn2 hk (by omega) (by omega)
      rw [← e0, List.length_append, l1, l2, l3, ← ht, show t + (M1.length - i) = A.length + M1.length by omega] at hr
      refine hr.trans ?_
      exact same _ (by congr 1; simp only [List.append_assoc])
    · refine (bifF (decide_eq_false (by omega))).trans ?_
      refine same _ ?_
      rw [e0, List.eq_nil_of_length_eq_zero (show B1.length = 0 by omega)]
      congr 1
      simp only [List.append_assoc, List.nil_append, List.append_nil]
  · refine (bifF (decide_eq_false (by omega))).trans ?_
    refine same _ ?_
    rw [e0, List.eq_nil_of_length_eq_zero (show A2.length = 0 by omega)]
    congr 1
    simp only [List.append_assoc, List.nil_append, List.append_nil]
/-- The search in the middle. -/
theorem symMid (k : Nat) (K : List CV → Option X) (n : Nat) (hn2 : n < 1000000) (A M1 M2 R : List Op) (hn : (A ++ M1 ++ M2 ++ R).length = n) (hk : n < k)
    (ih : ∀ (A M1 M2 R : List Op) (K : List CV → Option X), (A ++ M1 ++ M2 ++ R).length = n → Srt M1 → Srt M2 → 0 < M1.length → 0 < M2.length → n + M1.length + M2.length + 3 < k → f64_r k X K n (A.length : Int) ((A.length + M1.length : Nat) : Int) ((A.length + M1.length + M2.length : Nat) : Int) (ops (A ++ M1 ++ M2 ++ R)) = K (ops (A ++ isort (M1 ++ M2) ++ R)))
    (h1 : Srt M1) (h2 : Srt M2) (hkk : n + M1.length + M2.length + 2 < k) (g1 : 1 < M1.length) (g2 : 1 < M2.length) (mid s0 r0 : Nat) (hmid : mid = (A.length + (A.length + M1.length + M2.length)) / 2)
    (hs : (A.length + M1.length > mid ∧ s0 + (A.length + M1.length + M2.length) = mid + (A.length + M1.length) ∧ r0 = mid) ∨ (A.length + M1.length ≤ mid ∧ s0 = A.length ∧ r0 = A.length + M1.length)) :
    iterV (f64_L5 (fun X => @f57 X k) (fun X => @f65 X k) (f64_r k) k K) k (n, (A.length : Int), ((A.length + M1.length : Nat) : Int), ((A.length + M1.length + M2.length : Nat) : Int), (mid : Int), ((mid + (A.length + M1.length) : Nat) : Int), (s0 : Int), (r0 : Int), ((mid + (A.length + M1.length) - 1 : Nat) : Int), ops (A ++ M1 ++ M2 ++ R)) = K (ops (A ++ isort (M1 ++ M2) ++ R)) := by
  have hlen : A.length + M1.length + M2.length + R.length = n := by rw [← hn]; simp; omega
  have f1 : A.length ≤ s0 := by rcases hs with h | h <;> omega
  have f2 : s0 ≤ r0 := by rcases hs with h | h <;> omega
  have f3 : r0 ≤ A.length + M1.length := by rcases hs with h | h <;> omega
  have f4 : r0 ≤ mid := by rcases hs with h | h <;> omega
  have f5 : mid + (A.length + M1.length) - s0 ≤ A.length + M1.length + M2.length := by rcases hs with h | h <;> omega
  have eM1 : A ++ M1 ++ M2 ++ R = A ++ M1 ++ (M2 ++ R) := List.append_assoc ..
  have hAM : (A ++ M1).length = A.length + M1.length := List.length_append ..
  have srtL : ∀ c d, A.length ≤ c → c ≤ d → d < A.length + M1.length → (el (A ++ M1 ++ M2 ++ R) c).1 ≤ (el (A ++ M1 ++ M2 ++ R) d).1 := fun c d a b c' => by
    rw [eM1]; exact el_srt A M1 (M2 ++ R) h1 a b c'
  have srtR : ∀ c d, A.length + M1.length ≤ c → c ≤ d → d < A.length + M1.length + M2.length → (el (A ++ M1 ++ M2 ++ R) c).1 ≤ (el (A ++ M1 ++ M2 ++ R) d).1 := fun c d a b c' => el_srt (A ++ M1) M2 R h2 (by rw [hAM]; exact a) b (by rw [hAM]; exact c')
  refine (bsLoop (fun i j => (n, (A.length : Int), ((A.length + M1.length : Nat) : Int), ((A.length + M1.length + M2.length : Nat) : Int), (mid : Int), ((mid + (A.length + M1.length) : Nat) : Int), (i : Int), (j : Int), ((mid + (A.length + M1.length) - 1 : Nat) : Int), ops (A ++ M1 ++ M2 ++ R)))
    (fun c => !(decide ((el (A ++ M1 ++ M2 ++ R) (mid + (A.length + M1.length) - 1 - c)).1 < (el (A ++ M1 ++ M2 ++ R) c).1)))
    (fun t => f64_T5 (fun X => @f57 X k) (fun X => @f65 X k) (f64_r k) k K (fun _ => none) (n, (A.length : Int), ((A.length + M1.length : Nat) : Int), ((A.length + M1.length + M2.length : Nat) : Int), (mid : Int), ((mid + (A.length + M1.length) : Nat) : Int), (t : Int), (t : Int), ((mid + (A.length + M1.length) - 1 : Nat) : Int), ops (A ++ M1 ++ M2 ++ R)))
    s0 r0 (fun i j rec q1 q2 q3 => ?_) (fun i rec q1 q2 => ?_) k s0 r0 (Nat.le_refl _) f2 (Nat.le_refl _) (by omega)).trans ?_
  · unfold f64_L5 f64_T5
    dsimp only
    refine (bifT (decide_eq_true (by omega))).trans ?_
    rw [half_eq _ _ (by omega)]
    have wp : IntKind.wrap .i64 (((mid + (A.length + M1.length) - 1 : Nat) : Int) - (((i + j) / 2 : Nat) : Int)) = ((mid + (A.length + M1.length) - 1 - (i + j) / 2 : Nat) : Int) := by rw [wrap64 (by omega) (by omega)]; omega
    simp only [wp, Int.toNat_natCast, Nat.zero_add]
    refine (grdT (dec0 _)).trans ?_
    refine (grdT (decide_eq_true (by omega))).trans ?_
    refine (bAt (el_get (by rw [hn]; omega)) _).trans ?_
    refine (grdT (dec0 _)).trans ?_
    refine (grdT (decide_eq_true (by omega))).trans ?_
    refine (bAt (el_get (by rw [hn]; omega)) _).trans ?_
    refine (cmp_eq _ _ _).trans ?_
    have e := cmpI_neg (el (A ++ M1 ++ M2 ++ R) (mid + (A.length + M1.length) - 1 - (i + j) / 2)).1 (el (A ++ M1 ++ M2 ++ R) ((i + j) / 2)).1
    cases hc : decide ((el (A ++ M1 ++ M2 ++ R) (mid + (A.length + M1.length) - 1 - (i + j) / 2)).1 < (el (A ++ M1 ++ M2 ++ R) ((i + j) / 2)).1) with
    | true => rw [hc] at e; exact bifF (by rw [e]; rfl)
    | false =>
      rw [hc] at e
      refine (bifT (by rw [e]; rfl)).trans ?_
      rw [wrap64_succ (by omega)]; rfl
  · unfold f64_L5 f64_T5
    dsimp only
    exact (bifF (decide_eq_false (by omega))).trans (bifF (decide_eq_false (by omega))).symm
  · obtain ⟨t1, t2, t3, t4⟩ := bs_spec (q := fun c => !(decide ((el (A ++ M1 ++ M2 ++ R) (mid + (A.length + M1.length) - 1 - c)).1 < (el (A ++ M1 ++ M2 ++ R) c).1))) k s0 r0 (fun c d hc hcd hd hq => by
      have a1 := srtL c d (by omega) (by omega) (by omega)
      have a2 := srtR (mid + (A.length + M1.length) - 1 - d) (mid + (A.length + M1.length) - 1 - c) (by omega) (by omega) (by omega)
      simp only [Bool.not_eq_true', decide_eq_false_iff_not] at hq ⊢
      omega) f2 (by omega)
    generalize bs (fun c => !(decide ((el (A ++ M1 ++ M2 ++ R) (mid + (A.length + M1.length) - 1 - c)).1 < (el (A ++ M1 ++ M2 ++ R) c).1))) k s0 r0 = t at t1 t2 t3 t4
    refine symTail k K n hn2 A M1 M2 R hn hk ih h1 h2 hkk _ mid t (t - A.length) (mid - t) (by omega) (by omega) (by omega) (by omega) (by omega) (by omega) (fun u hu v hv => ?_) (fun u hu v hv => ?_) _
    · obtain ⟨c, c1, c2, c3, rfl⟩ := take_el (A := A) (R := M2 ++ R) hu
      obtain ⟨d, d1, d2, rfl⟩ := drop_el (A := A ++ M1) (R := R) hv
      rw [hAM] at d1 d2
      rw [← eM1]
      rcases Nat.eq_or_lt_of_le t1 with e | e
      · rcases hs with h | h <;> omega
      · have hq := t3 (t - 1) (by omega) (by omega)
        simp only [Bool.not_eq_true', decide_eq_false_iff_not] at hq
        have a1 := srtL c (t - 1) c1 (by omega) (by omega)
        have a2 := srtR (mid + (A.length + M1.length) - 1 - (t - 1)) d (by omega) (by omega) d2
        omega
    · obtain ⟨c, c1, c2, c3, rfl⟩ := take_el (A := A ++ M1) (R := R) hu
      obtain ⟨d, d1, d2, rfl⟩ := drop_el (A := A) (R := M2 ++ R) hv
      rw [hAM] at c1 c2 c3
      rw [← eM1]
      rcases Nat.eq_or_lt_of_le t2 with e | e
      · rcases hs with h | h <;> omega
      · have hq := t4 t (Nat.le_refl _) e
        simp only [Bool.not_eq_false', decide_eq_true_eq] at hq
        have a1 := srtL t d (by omega) (by omega) d2
        have a2 := srtR c (mid + (A.length + M1.length) - 1 - t) c1 (by omega) (by omega)
        omega
/-- Two sorted rows are merged. -/
theorem symMerge_eq (n : Nat) (hn2 : n < 1000000) : ∀ (k : Nat) (A M1 M2 R : List Op) (K : List CV → Option X), (A ++ M1 ++ M2 ++ R).length = n → Srt M1 → Srt M2 → 0 < M1.length → 0 < M2.length → n + M1.length + M2.length + 3 < k →
    f64_r k X K n (A.length : Int) ((A.length + M1.length : Nat) : Int) ((A.length + M1.length + M2.length : Nat) : Int) (ops (A ++ M1 ++ M2 ++ R)) = K (ops (A ++ isort (M1 ++ M2) ++ R))
  | 0, _, _, _, _, _, _, _, _, _, _, h => absurd h (Nat.not_lt_zero _)
  | k + 1, A, M1, M2, R, K, hn, h1, h2, p1, p2, hk => by
    have hlen : A.length + M1.length + M2.length + R.length = n := by rw [← hn]; simp; omega
    show f64_A (fun X => @f57 X k) (fun X => @f65 X k) (f64_r k) k X K n _ _ _ _ = _
    unfold f64_A f64_T
    rw [show IntKind.wrap .i64 (((A.length + M1.length : Nat) : Int) - (A.length : Int)) = (M1.length : Int) by rw [wrap64 (by omega) (by omega)]; omega,
      show IntKind.wrap .i64 (((A.length + M1.length + M2.length : Nat) : Int) - ((A.length + M1.length : Nat) : Int)) = (M2.length : Int) by rw [wrap64 (by omega) (by omega)]; omega]
    by_cases g1 : M1.length = 1
    · obtain ⟨x, rfl⟩ := List.length_eq_one_iff.1 g1
      refine (bifT (by rw [g1]; rfl)).trans ?_
      exact merge1 k (f64_r k) K n hn2 x A M2 R hn (by omega) h2
    refine (bifF (beq_f (by omega))).trans ?_
    by_cases g2 : M2.length = 1
    · obtain ⟨x, rfl⟩ := List.length_eq_one_iff.1 g2
      refine (bifT (by rw [g2]; rfl)).trans ?_
      exact merge2 k (f64_r k) K n hn2 x A M1 R hn (by omega) h1
    refine (bifF (beq_f (by omega))).trans ?_
    rw [half_eq _ _ (by omega)]
    have ih := symMerge_eq n hn2 k
    have wn : IntKind.wrap .i64 ((((A.length + (A.length + M1.length + M2.length)) / 2 : Nat) : Int) + ((A.length + M1.length : Nat) : Int)) = (((A.length + (A.length + M1.length + M2.length)) / 2 + (A.length + M1.length) : Nat) : Int) := by rw [wrap64 (by omega) (by omega)]; omega
    have wp : IntKind.wrap .i64 ((((A.length + (A.length + M1.length + M2.length)) / 2 + (A.length + M1.length) : Nat) : Int) - 1) = (((A.length + (A.length + M1.length + M2.length)) / 2 + (A.length + M1.length) - 1 : Nat) : Int) := by rw [wrap64 (by omega) (by omega)]; omega
    unfold f64_J3
    dsimp only
    rw [wn, wp]
    by_cases g3 : A.length + M1.length > (A.length + (A.length + M1.length + M2.length)) / 2
    · refine (bifT (decide_eq_true (by omega))).trans ?_
      have ws : IntKind.wrap .i64 ((((A.length + (A.length + M1.length + M2.length)) / 2 + (A.length + M1.length) : Nat) : Int) - ((A.length + M1.length + M2.length : Nat) : Int)) = (((A.length + (A.length + M1.length + M2.length)) / 2 + (A.length + M1.length) - (A.length + M1.length + M2.length) : Nat) : Int) := by rw [wrap64 (by omega) (by omega)]; omega
      rw [ws]
      exact symMid k K n hn2 A M1 M2 R hn (by omega) ih h1 h2 (by omega) (by omega) (by omega) _ _ _ rfl (.inl ⟨g3, by omega, rfl⟩)
    · refine (bifF (decide_eq_false (by omega))).trans ?_
      exact symMid k K n hn2 A M1 M2 R hn (by omega) ih h1 h2 (by omega) (by omega) (by omega) _ _ _ rfl (.inr ⟨by omega, rfl, rfl⟩)
theorem isort_isort (l m : List Op) : isort (isort l ++ isort m) = isort (l ++ m) :=
  eq_isort (isort_srt _) (((isort_flt l).app (isort_flt m)).trans (isort_flt _))
/-- The sort of up to 39. -/
theorem stable_eq {k : Nat} (K : List CV → Option X) (l : List Op) (hl : l.length < 40) (hk : 200 < k) : f61 k K l.length (l.length : Int) (ops l) = K (ops (isort l)) := by
  obtain ⟨k, rfl⟩ : ∃ j, k = j + 5 := ⟨k - 5, by omega⟩
  unfold f61 f61_A f61_T
  have ins0 := fun K' => insSort_eq (X := X) (k := k + 5) K' [] (l.take 20) (l.drop 20) l.length (by simp) (by omega) (by omega)
  simp only [List.nil_append, List.length_nil, List.take_append_drop, Nat.zero_add] at ins0
  rcases Nat.lt_or_ge l.length 20 with h | h
  · have et : l.take 20 = l := List.take_of_length_le (by omega)
    have ed : l.drop 20 = [] := List.drop_of_length_le (by omega)
    rw [et, ed, List.append_nil] at ins0
    refine (iterV_one _ _ _).trans ?_
    generalize iterV (f61_L1 _ _ (k + 5) K) (k + 4) = rec
    unfold f61_L1 f61_T1
    dsimp only
    refine (bifF (decide_eq_false (by omega))).trans ?_
    refine (ins0 _).trans ?_
    refine (iterV_one _ _ _).trans ?_
    unfold f61_L2 f61_T2
    exact bifF (decide_eq_false (by show ¬ ((20 : Int) < (l.length : Int)); omega))
  · have l1 : (l.take 20).length = 20 := by rw [List.length_take]; omega
    have l2 : (l.drop 20).length = l.length - 20 := List.length_drop ..
    rw [l1] at ins0
    refine (iterV_one _ _ _).trans ?_
    have e1 : iterV (f61_L1 (fun X => @f63 X (k + 5)) (fun X => @f64 X (k + 5)) (k + 5) K) (k + 4) = fun v => f61_L1 (fun X => @f63 X (k + 5)) (fun X => @f64 X (k + 5)) (k + 5) K (iterV (f61_L1 (fun X => @f63 X (k + 5)) (fun X => @f64 X (k + 5)) (k + 5) K) (k + 3)) v := rfl
    rw [e1]
    generalize iterV (f61_L1 (fun X => @f63 X (k + 5)) (fun X => @f64 X (k + 5)) (k + 5) K) (k + 3) = rec
    unfold f61_L1 f61_T1
    dsimp only
    refine (bifT (decide_eq_true (by omega))).trans ?_
    refine (ins0 _).trans ?_
    rw [show IntKind.wrap .i64 (20 + 20) = 40 from by decide]
    refine (bifF (decide_eq_false (by omega))).trans ?_
    have ins1 := fun K' => insSort_eq (X := X) (k := k + 5) K' (isort (l.take 20)) (l.drop 20) [] l.length (by simp [isort_len]; omega) (by omega) (by omega)
    simp only [List.append_nil, isort_len, l1, l2, show 20 + (l.length - 20) = l.length from by omega] at ins1
    refine (ins1 _).trans ?_
    refine (iterV_one _ _ _).trans ?_
    have e2 : iterV (f61_L2 (fun X => @f63 X (k + 5)) (fun X => @f64 X (k + 5)) (k + 5) K) (k + 4) = fun v => f61_L2 (fun X => @f63 X (k + 5)) (fun X => @f64 X (k + 5)) (k + 5) K (iterV (f61_L2 (fun X => @f63 X (k + 5)) (fun X => @f64 X (k + 5)) (k + 5) K) (k + 3)) v := rfl
    rw [e2]
    generalize iterV (f61_L2 (fun X => @f63 X (k + 5)) (fun X => @f64 X (k + 5)) (k + 5) K) (k + 3) = rec2
    unfold f61_L2 f61_T2
    dsimp only
    rcases Nat.eq_or_lt_of_le h with e | e
    · refine (bifF (decide_eq_false (by omega))).trans ?_
      rw [List.drop_of_length_le (by omega), List.take_of_length_le (by omega)]
      rw [show isort ([] : List Op) = [] from rfl, List.append_nil]
    · refine (bifT (decide_eq_true (by omega))).trans ?_
      refine (iterV_one _ _ _).trans ?_
      generalize iterV (f61_L3 _ _ (k + 5) K _) (k + 4) = rec3
      unfold f61_L3 f61_T3 f61_J1
      dsimp only
      rw [show IntKind.wrap .i64 (2 * 20) = 40 from by decide, show IntKind.wrap .i64 (0 + 20) = 20 from by decide, show IntKind.wrap .i64 (20 * 2) = 40 from by decide]
      refine (bifF (decide_eq_false (by omega))).trans ?_
      refine (bifT (decide_eq_true (by omega))).trans ?_
      have sm := fun K' => symMerge_eq (X := X) l.length (by omega) (k + 5) [] (isort (l.take 20)) (isort (l.drop 20)) [] K' (by simp [isort_len]; omega) (isort_srt _) (isort_srt _) (by rw [isort_len]; omega) (by rw [isort_len]; omega) (by rw [isort_len, isort_len]; omega)
      simp only [List.nil_append, List.append_nil, List.length_nil, Nat.zero_add, isort_len, l1, l2, show 20 + (l.length - 20) = l.length from by omega] at sm
      refine (sm _).trans ?_
      rw [isort_isort, List.take_append_drop]
      exact bifF (decide_eq_false (by omega))
theorem byNum_eq {k : Nat} (K : Nat × List CV → Option X) (l : List Op) (hl : l.length < 40) (hk : 200 < k) : f44 k K (ops l) = K (l.length, ops (isort l)) := by
  have e : f44 k K (ops l) = grd (decide ((0 + List.length (ops l)) * 32 ≤ 140737488355328)) (f61 k (fun u2 => K ((ops l).length, List.take (0 + (ops l).length) u2)) (ops l).length ((Nat.cast (ops l).length : Int)) (ops l)) := by kernel_rfl
  rw [e, grdT (decide_eq_true (by rw [ops_length]; omega))]
  rw [ops_length, stable_eq _ l hl hk, Nat.zero_add, take_all _ _ (by rw [ops_length, isort_len]; exact Nat.le_refl _)]
end
section
variable {X : Type}
theorem ops_nth (l : List Op) (i : Nat) (h : i < l.length) : (ops l)[i]? = some (opv l[i]) := by simp [ops, h]
def pF (o : Op) : Bool := decide (o.1 < 0) || decide (o.1 > 65535)
def qF (o : Op) : Bool := decide (300 < o.2.length)
def flt (l : List Op) : Int := bif decide (24 < l.length) then 3 else bif l.any pF then 1 else bif l.any qF then 2 else 0
theorem ixI_any {α : Type} (p : α → Bool) : ∀ (l : List α) (i : Nat), decide (ixI (ixf p i l) ≥ 0) = l.any p
  | [], i => by simp [ixf, ixI]
  | a :: l, i => by
    unfold ixf
    rw [List.any_cons]
    cases h : p a with
    | true => simp [ixI]
    | false => simpa using ixI_any p l (i + 1)
theorem pF_eq {k : Nat} (K : Bool → Option X) (o : Op) : f53 k K (opv o) = K (pF o) := by
  have e : f53 k K (opv o) = (bif decide (o.1 < 0) then K true else K (decide (o.1 > 65535))) := by kernel_rfl
  rw [e]
  unfold pF
  cases decide (o.1 < 0) <;> rfl
theorem qF_eq {k : Nat} (K : Bool → Option X) (o : Op) : f54 k K (opv o) = K (qF o) := by
  have e : f54 k K (opv o) = K (decide (((by8 o.2).length : Int) > 300)) := by kernel_rfl
  rw [e]
  unfold qF
  rw [by8_length]
  congr 1
  exact decide_eq_decide.2 (by omega)
theorem ix1_eq {k : Nat} (K : Int → Option X) (l : List Op) (hk : l.length < k) (hl : l.length < 1000000) : f60 k K (ops l) = K (ixI (ixf pF 0 l)) := by
  refine ixLoop0 (T := f60_L1 (fun X => @f53 X k) k K) (fun i => (ops l, ((ops l).length : Int), (i : Int))) pF l K (fun i rec h => ?_) (fun rec => ?_) k hk
  · unfold f60_L1 f60_T1
    dsimp only
    refine (bifT (decide_eq_true (by rw [ops_length]; omega))).trans ?_
    refine (grdT (dec0 _)).trans ?_
    rw [Int.toNat_natCast]
    refine (bAt (ops_nth l i h) _).trans ?_
    refine (pF_eq _ _).trans ?_
    rw [wrap64_s (by omega)]
  · unfold f60_L1 f60_T1
    dsimp only
    exact bifF (decide_eq_false (by rw [ops_length]; omega))
theorem ix2_eq {k : Nat} (K : Int → Option X) (l : List Op) (hk : l.length < k) (hl : l.length < 1000000) : f60b k K (ops l) = K (ixI (ixf qF 0 l)) := by
  refine ixLoop0 (T := f60b_L1 (fun X => @f54 X k) k K) (fun i => (ops l, ((ops l).length : Int), (i : Int))) qF l K (fun i rec h => ?_) (fun rec => ?_) k hk
  · unfold f60b_L1 f60b_T1
    dsimp only
    refine (bifT (decide_eq_true (by rw [ops_length]; omega))).trans ?_
    refine (grdT (dec0 _)).trans ?_
    rw [Int.toNat_natCast]
    refine (bAt (ops_nth l i h) _).trans ?_
    refine (qF_eq _ _).trans ?_
    rw [wrap64_s (by omega)]
  · unfold f60b_L1 f60b_T1
    dsimp only
    exact bifF (decide_eq_false (by rw [ops_length]; omega))
theorem fault_eq {k : Nat} (K : Int → Option X) (l : List Op) (hk : l.length < k) (hl : l.length < 1000000) : f43 k K (ops l) = K (flt l) := by
  have e : f43 k K (ops l) = (bif decide (((ops l).length : Int) > 24) then K 3 else f60 k (fun u1 => bif decide (u1 ≥ 0) then K 1 else f60b k (fun u3 => bif decide (u3 ≥ 0) then K 2 else K 0) (ops l)) (ops l)) := by kernel_rfl
  rw [e, ix1_eq _ l hk hl, ix2_eq _ l hk hl, ixI_any, ixI_any, ops_length]
  unfold flt
  rw [show decide ((l.length : Int) > 24) = decide (24 < l.length) from decide_eq_decide.2 (by omega)]
  cases decide (24 < l.length)
  · cases l.any pF
    · cases l.any qF <;> rfl
    · rfl
  · rfl
/-- Four bits that tell a number, the bytes that follow. -/
def tellN (n : Int) : Int × List Int := if n < 13 then (n, []) else if n < 269 then (13, [n - 13]) else (14, [(n - 269) / 256, (n - 269) % 256])
theorem u8_small {n : Int} (h : 0 ≤ n) (h2 : n < 256) : IntKind.wrap .u8 n = n := by rw [wrapU8]; omega
theorem nibble_eq {k : Nat} (K : Int × Nat × List CV → Option X) (n : Int) (h0 : 0 ≤ n) (h1 : n ≤ 65535) : f45 k K n = K ((tellN n).1, (tellN n).2.length, by8 (tellN n).2) := by
  have e : f45 k K n = (bif decide (n < 13) then K (n, 0, by8 []) else bif decide (n < 269) then K (13, 1, by8 [IntKind.wrap .u8 (IntKind.wrap .i64 (n - 13))]) else K (14, 2, by8 [IntKind.wrap .u8 (Int.fdiv (IntKind.wrap .i64 (n - 269)) 256), IntKind.wrap .u8 (IntKind.wrap .i64 (n - 269))])) := by kernel_rfl
  rw [e]
  unfold tellN
  by_cases h : n < 13
  · rw [if_pos h]; exact bifT (decide_eq_true h)
  · rw [if_neg h]
    refine (bifF (decide_eq_false h)).trans ?_
    by_cases h' : n < 269
    · rw [if_pos h']
      refine (bifT (decide_eq_true h')).trans ?_
      rw [wrap64 (n := n - 13) (by omega) (by omega), u8_small (by omega) (by omega)]; rfl
    · rw [if_neg h']
      refine (bifF (decide_eq_false h')).trans ?_
      rw [wrap64 (n := n - 269) (by omega) (by omega), fdiv_eq _ (by decide), u8_small (n := (n - 269) / 256) (by omega) (by omega), wrapU8]; rfl
end
section
variable {X : Type}
theorem opv0 (o : Op) : CV.cell (opv o) 0 = some (.int .i64 o.1) := rfl
theorem opv1 (o : Op) : CV.cell (opv o) 1 = some (.slc none (by8 o.2)) := rfl
theorem opvI (o : Op) : CV.toI (CV.cellD 0 (opv o)) = o.1 := rfl
theorem opvL (o : Op) : CV.toL (CV.cellD 1 (opv o)) = by8 o.2 := rfl
theorem t1o (o : Op) : List.take 1 (List.drop 0 [opv o]) = ops [o] := rfl
theorem t1n (n : Int) : List.take 1 (List.drop 0 [CV.int .u8 n]) = by8 [n] := rfl
theorem d8 (P : List Int) : List.take P.length (List.drop 0 (by8 P)) = by8 P := by rw [List.drop_zero]; exact t8' P
theorem tO (Q : List Op) : List.take Q.length (ops Q) = ops Q := take_all _ _ (by rw [ops_length]; exact Nat.le_refl _)
theorem dO (Q : List Op) : List.take Q.length (List.drop 0 (ops Q)) = ops Q := by rw [List.drop_zero]; exact tO Q
end
section
variable {X : Type}
/-- An option's bytes behind a number; the bytes of options. -/
def hd (last : Int) (o : Op) : Int := (tellN (o.1 - last)).1 * 16 + (tellN (o.2.length : Int)).1
def chunk (last : Int) (o : Op) : List Int := [hd last o] ++ (tellN (o.1 - last)).2 ++ (tellN (o.2.length : Int)).2 ++ o.2
def enc : Int → List Op → List Int
  | _, [] => []
  | last, o :: l => chunk last o ++ enc o.1 l
/-- Options that may be written behind a number. -/
def Okk : Int → List Op → Prop
  | _, [] => True
  | last, o :: l => 0 ≤ last ∧ last ≤ o.1 ∧ o.1 ≤ 65535 ∧ o.2.length ≤ 300 ∧ Okk o.1 l
theorem tell_bnd (n : Int) (h : 0 ≤ n) : 0 ≤ (tellN n).1 ∧ (tellN n).1 ≤ 14 ∧ (tellN n).2.length ≤ 2 := by
  unfold tellN
  split
  · exact ⟨h, by show n ≤ 14; omega, by simp⟩
  · split
    · exact ⟨by simp, by simp, by simp⟩
    · exact ⟨by simp, by simp, by simp⟩
theorem chunk_len (last : Int) (o : Op) (h : last ≤ o.1) : (chunk last o).length ≤ o.2.length + 5 ∧ 1 ≤ (chunk last o).length := by
  have h1 := tell_bnd (o.1 - last) (by omega)
  have h2 := tell_bnd (o.2.length : Int) (by omega)
  unfold chunk
  simp only [List.length_append, List.length_singleton]
  omega
theorem or_nib {d l : Int} (hd : 0 ≤ d) (hd2 : d ≤ 14) (hl : 0 ≤ l) (hl2 : l ≤ 14) : IntKind.wrap .u8 (bop .or .i64 (IntKind.wrap .i64 (d * 2 ^ 4)) l) = d * 16 + l := by
  obtain ⟨a, rfl⟩ := Int.eq_ofNat_of_zero_le hd
  obtain ⟨b, rfl⟩ := Int.eq_ofNat_of_zero_le hl
  rw [wrap64 (by omega) (by omega)]
  rw [show ((a : Int) * 2 ^ 4) = ((a * 2 ^ 4 : Nat) : Int) from by push_cast; rfl]
  rw [bop_or64 (by omega) (by omega), or_add (by omega), u8_small (by omega) (by omega)]
  push_cast; omega
theorem add_nib {d l : Int} (hd : 0 ≤ d) (hd2 : d ≤ 14) (hl : 0 ≤ l) (hl2 : l ≤ 14) : IntKind.wrap .u8 (IntKind.wrap .i64 (IntKind.wrap .i64 (d * 16) + l)) = d * 16 + l := by
  rw [wrap64 (n := d * 16) (by omega) (by omega), wrap64 (by omega) (by omega), u8_small (by omega) (by omega)]
theorem ops_mid (A : List Op) (o : Op) (B : List Op) : (ops (A ++ o :: B))[A.length]? = some (opv o) := ops_at A o B
theorem writeL {k : Nat} (K : Nat × Int × List CV → Option X) (L : List Op) (hL : L.length ≤ 100000) : ∀ (kk : Nat) (B A : List Op) (P : List Int) (last : Int), B.length < kk → L = A ++ B → Okk last B → P.length + 400 * B.length ≤ 1000000000 →
    iterV (f24_L1 (fun X => @f43 X k) (fun X => @f44 X k) (fun X => @f45 X k) k K) kk (P.length, last, L.length, (L.length : Int), (A.length : Int), by8 P, ops L) = K ((P ++ enc last B).length, 0, by8 (P ++ enc last B))
  | 0, B, A, P, last, h, _, _, _ => absurd h (Nat.not_lt_zero _)
  | kk + 1, [], A, P, last, h, e, _, hp => by
    refine (iterV_one _ _ _).trans ?_
    unfold f24_L1 f24_T1
    dsimp only
    rw [List.append_nil] at e
    refine (bifF (decide_eq_false (by rw [e]; omega))).trans ?_
    rw [t8, enc, List.append_nil]
  | kk + 1, o :: B, A, P, last, h, e, hok, hp => by
    refine (iterV_one _ _ _).trans ?_
    have ih := writeL K L hL kk B (A ++ [o]) (P ++ chunk last o) o.1 (k := k)
    generalize iterV (f24_L1 (fun X => @f43 X k) (fun X => @f44 X k) (fun X => @f45 X k) k K) kk = rec at ih ⊢
    obtain ⟨h0, h1, h2, h3, hok⟩ := hok
    have hl : L.length = A.length + (B.length + 1) := by rw [e]; simp
    have hx : (ops L)[A.length]? = some (opv o) := by rw [e]; exact ops_mid A o B
    have cl := chunk_len last o h1
    have tb1 := tell_bnd (o.1 - last) (by omega)
    have tb2 := tell_bnd (o.2.length : Int) (by omega)
    simp only [List.length_cons] at h hp
    unfold f24_L1 f24_T1
    dsimp only
    refine (bifT (decide_eq_true (by omega))).trans ?_
    refine (grdT (dec0 _)).trans ?_
    refine (grdT (decide_eq_true (by omega))).trans ?_
    rw [Int.toNat_natCast, Nat.zero_add]
    refine (bAt hx _).trans ?_
    refine (grdT rfl).trans ?_
    refine (grdT rfl).trans ?_
    refine (grdT rfl).trans ?_
    simp only [opvI, opvL, by8_length]
    rw [wrap64 (n := o.1 - last) (by omega) (by omega)]
    refine (nibble_eq _ _ (by omega) (by omega)).trans ?_
    refine (nibble_eq _ _ (by omega) (by omega)).trans ?_
    dsimp only
    rw [or_nib tb1.1 tb1.2.1 tb2.1 tb2.2.1]
    show grd _ _ = _
    simp only [t1n, d8, t8', ← by8_append, by8_length]
    have a1 : P.length + [(tellN (o.1 - last)).1 * 16 + (tellN (o.2.length : Int)).1].length = (P ++ [(tellN (o.1 - last)).1 * 16 + (tellN (o.2.length : Int)).1]).length := (List.length_append).symm
    simp only [a1, t8', ← List.length_append, ← by8_append]
    refine (grdT (decide_eq_true (by simp; omega))).trans ?_
    refine (grdT (decide_eq_true (by simp; omega))).trans ?_
    refine (grdT (decide_eq_true (by simp; omega))).trans ?_
    refine (grdT (decide_eq_true (by simp; omega))).trans ?_
    rw [wrap64_s (by omega)]
    have e1 : P ++ [(tellN (o.1 - last)).1 * 16 + (tellN (o.2.length : Int)).1] ++ (tellN (o.1 - last)).2 ++ (tellN (o.2.length : Int)).2 ++ o.2 = P ++ chunk last o := by
      unfold chunk hd; simp
    rw [e1]
    have := ih (by omega) (by rw [e]; simp) hok (by simp only [List.length_append]; omega)
    rw [show (A ++ [o]).length = A.length + 1 from by simp] at this
    rw [this, enc, List.append_assoc]
/-- Options as bytes. -/
def optW (l : List Op) : Int × List Int := bif flt l != 0 then (flt l, []) else (0, enc 0 (isort l))
theorem okk_of : ∀ (l : List Op) (last : Int), 0 ≤ last → Srt l → (∀ o ∈ l, last ≤ o.1 ∧ o.1 ≤ 65535 ∧ o.2.length ≤ 300) → Okk last l
  | [], _, _, _, _ => trivial
  | o :: l, last, h0, hs, h => by
    have hs' := List.pairwise_cons.1 hs
    have ho := h o List.mem_cons_self
    exact ⟨h0, ho.1, ho.2.1, ho.2.2, okk_of l o.1 (by omega) hs'.2 fun p hp => ⟨hs'.1 p hp, (h p (List.mem_cons_of_mem _ hp)).2⟩⟩
theorem flt_ok {l : List Op} (h : flt l = 0) : l.length ≤ 24 ∧ ∀ o ∈ l, 0 ≤ o.1 ∧ o.1 ≤ 65535 ∧ o.2.length ≤ 300 := by
  unfold flt at h
  cases h1 : decide (24 < l.length) with
  | true => rw [h1] at h; exact absurd (show (3 : Int) = 0 from h) (by decide)
  | false =>
    rw [h1] at h
    cases h2 : l.any pF with
    | true => rw [h2] at h; exact absurd (show (1 : Int) = 0 from h) (by decide)
    | false =>
      rw [h2] at h
      cases h3 : l.any qF with
      | true => rw [h3] at h; exact absurd (show (2 : Int) = 0 from h) (by decide)
      | false =>
        have h1 := of_decide_eq_false h1
        refine ⟨by omega, fun o ho => ?_⟩
        have h2 := List.any_eq_false.1 h2 o ho
        have h3 := List.any_eq_false.1 h3 o ho
        simp only [pF, qF, Bool.or_eq_true, decide_eq_true_eq, not_or] at h2 h3
        omega
theorem okk_isort {l : List Op} (h : flt l = 0) : Okk 0 (isort l) := by
  obtain ⟨h1, h2⟩ := flt_ok h
  exact okk_of _ 0 (Int.le_refl _) (isort_srt l) fun o ho => h2 o (isort_mem.1 ho)
theorem optW_eq {k : Nat} (K : Nat × Int × List CV → Option X) (l : List Op) (hk : 1000000 < k) (hl : l.length < 1000) : f24 k K (ops l) = K ((optW l).2.length, (optW l).1, by8 (optW l).2) := by
  unfold f24 f24_A f24_T
  refine (fault_eq _ l (by omega) (by omega)).trans ?_
  unfold optW
  cases h : flt l != 0 with
  | true => rfl
  | false =>
    refine (bifF rfl).trans ?_
    have h0 : flt l = 0 := by simpa using h
    have h1 := flt_ok h0
    refine (byNum_eq _ l (by omega) (by omega)).trans ?_
    have := writeL (k := k) K (isort l) (by rw [isort_len]; omega) k (isort l) [] [] 0 (by rw [isort_len]; omega) rfl (okk_isort h0) (by rw [isort_len]; simp; omega)
    rw [isort_len] at this
    exact this
end
section
variable {X : Type}
/-- A byte of bytes. -/
def gt (b : List Int) (i : Nat) : Int := b[i]?.getD 0
theorem gtB {b : List Int} (h : Byt b) (i : Nat) : 0 ≤ gt b i ∧ gt b i < 256 := by
  unfold gt
  rcases Nat.lt_or_ge i b.length with hi | hi
  · rw [List.getElem?_eq_getElem hi]; exact h _ (List.getElem_mem hi)
  · rw [List.getElem?_eq_none hi]; exact ⟨Int.le_refl _, by decide⟩
theorem gtE {b : List Int} {i : Nat} (hi : i < b.length) : (by8 b)[i]? = some (CV.int .u8 (gt b i)) := by
  unfold gt
  rw [by8_get, List.getElem?_eq_getElem hi]; rfl
/-- The number that four bits tell, and where it goes on. -/
def rdNum (b : List Int) (at' : Nat) (n : Int) : Option (Int × Nat) :=
  if n < 13 then some (n, at') else if n = 13 then (if at' < b.length then some (13 + gt b at', at' + 1) else none) else if at' + 2 ≤ b.length then some (269 + gt b at' * 256 + gt b (at' + 1), at' + 2) else none
theorem rdNum_bnd {b : List Int} {a : Nat} {n d : Int} {p : Nat} (hb : Byt b) (ha : a ≤ b.length) (hn : 0 ≤ n) (h : rdNum b a n = some (d, p)) : a ≤ p ∧ p ≤ b.length ∧ 0 ≤ d ∧ d ≤ 70000 := by
  unfold rdNum at h
  have h1 := gtB hb a
  have h2 := gtB hb (a + 1)
  split at h
  · cases h; omega
  · split at h
    · split at h
      · cases h; omega
      · cases h
    · split at h
      · cases h; omega
      · cases h
theorem number_eq {k : Nat} (K : Int × Bool × List CV × Int → Option X) (b : List Int) (a : Nat) (n : Int) (hb : Byt b) (ha : a ≤ b.length) (hl : b.length ≤ 1000000) (h0 : 0 ≤ n) (h1 : n ≤ 14) :
    f59 k K n (by8 b) (a : Int) = match rdNum b a n with | none => K (0, false, by8 b, (a : Int)) | some (d, p) => K (d, true, by8 b, (p : Int)) := by
  have g1 := gtB hb a
  have g2 := gtB hb (a + 1)
  unfold f59 f59_A f59_T rdNum
  rw [by8_length]
  by_cases h : n < 13
  · rw [if_pos h]
    refine (bifF (beq_eq_false_iff_ne.2 (by omega))).trans ?_
    exact bifF (beq_eq_false_iff_ne.2 (by omega))
  · rw [if_neg h]
    rw [wrap64 (n := (a : Int) + 1) (by omega) (by omega), wrap64 (n := (a : Int) + 2) (by omega) (by omega)]
    by_cases h13 : n = 13
    · rw [if_pos h13]
      refine (bifT (beq_iff_eq.2 h13)).trans ?_
      by_cases hc : a < b.length
      · rw [if_pos hc]
        refine (bifF (decide_eq_false (by omega))).trans ?_
        rw [wrap64 (n := (a : Int) + 1 - 1) (by omega) (by omega), show ((a : Int) + 1 - 1) = (a : Int) from by omega, Int.toNat_natCast]
        refine (grdT (dec0 _)).trans ?_
        refine (bAt (gtE hc) _).trans ?_
        refine (grdT rfl).trans ?_
        rw [show CV.toI (CV.int .u8 (gt b a)) = gt b a from rfl, wrap64 (n := gt b a) (by omega) (by omega), wrap64 (n := 13 + gt b a) (by omega) (by omega)]
        rfl
      · rw [if_neg hc]
        exact bifT (decide_eq_true (by omega))
    · rw [if_neg h13]
      refine (bifF (beq_eq_false_iff_ne.2 h13)).trans ?_
      refine (bifT (beq_iff_eq.2 (by omega))).trans ?_
      by_cases hc : a + 2 ≤ b.length
      · rw [if_pos hc]
        refine (bifF (decide_eq_false (by omega))).trans ?_
        rw [wrap64 (n := (a : Int) + 2 - 2) (by omega) (by omega), show ((a : Int) + 2 - 2) = (a : Int) from by omega, Int.toNat_natCast]
        rw [wrap64 (n := (a : Int) + 2 - 1) (by omega) (by omega), show ((a : Int) + 2 - 1) = ((a + 1 : Nat) : Int) from by omega, Int.toNat_natCast]
        refine (grdT (dec0 _)).trans ?_
        refine (bAt (gtE (by omega)) _).trans ?_
        refine (grdT rfl).trans ?_
        refine (grdT (dec0 _)).trans ?_
        refine (bAt (gtE (by omega)) _).trans ?_
        refine (grdT rfl).trans ?_
        rw [show CV.toI (CV.int .u8 (gt b a)) = gt b a from rfl, show CV.toI (CV.int .u8 (gt b (a + 1))) = gt b (a + 1) from rfl, show (2 : Int) ^ 8 = 256 from rfl]
        rw [wrap64 (n := gt b a) (by omega) (by omega), wrap64 (n := gt b (a + 1)) (by omega) (by omega), wrap64 (n := gt b a * 256) (by omega) (by omega), wrap64 (n := 269 + gt b a * 256) (by omega) (by omega), wrap64 (n := 269 + gt b a * 256 + gt b (a + 1)) (by omega) (by omega)]
        rfl
      · rw [if_neg hc]
        exact bifT (decide_eq_true (by omega))
/-- An option behind others: its number, where its bytes stand, how many; or what is wrong. -/
def rdO (b : List Int) (last : Int) (cnt a : Nat) : (Int × Nat) ⊕ (Int × Nat × Int) :=
  if gt b a / 16 = 15 ∨ gt b a % 16 = 15 then .inl (20, a) else
  match rdNum b (a + 1) (gt b a / 16) with
  | none => .inl (20, a + 1)
  | some (d, p) => match rdNum b p (gt b a % 16) with
    | none => .inl (20, p)
    | some (n, q) => if cnt ≥ 24 then .inl (3, q) else if last + d > 65535 then .inl (1, q) else if n > 300 then .inl (2, q) else if n > (b.length : Int) - q then .inl (20, q) else .inr (last + d, q, n)
theorem rdO_bnd {b : List Int} {last : Int} {cnt a : Nat} {num n : Int} {q : Nat} (hb : Byt b) (ha : a < b.length) (h0 : 0 ≤ last) (h : rdO b last cnt a = .inr (num, q, n)) : a < q ∧ (q : Int) + n ≤ b.length ∧ 0 ≤ n ∧ n ≤ 300 ∧ last ≤ num ∧ num ≤ 65535 ∧ cnt < 24 := by
  have g := gtB hb a
  unfold rdO at h
  split at h
  · cases h
  · split at h
    · cases h
    · next e1 =>
      have b1 := rdNum_bnd hb (by omega) (by omega) e1
      split at h
      · cases h
      · next e2 =>
        have b2 := rdNum_bnd hb b1.2.1 (by omega) e2
        split at h
        · cases h
        · split at h
          · cases h
          · split at h
            · cases h
            · split at h
              · cases h
              · cases h; omega
theorem rdO_err {b : List Int} {last : Int} {cnt a : Nat} {e : Int} {q : Nat} (h : rdO b last cnt a = .inl (e, q)) : e = 20 ∨ e = 3 ∨ e = 1 ∨ e = 2 := by
  unfold rdO at h
  split at h
  · cases h; exact .inl rfl
  · split at h
    · cases h; exact .inl rfl
    · split at h
      · cases h; exact .inl rfl
      · split at h
        · cases h; exact .inr (.inl rfl)
        · split at h
          · cases h; exact .inr (.inr (.inl rfl))
          · split at h
            · cases h; exact .inr (.inr (.inr rfl))
            · split at h
              · cases h; exact .inl rfl
              · cases h
theorem by8_drop (b : List Int) (n : Nat) : List.drop n (by8 b) = by8 (b.drop n) := by simp [by8, List.map_drop]
theorem by8_take (b : List Int) (n : Nat) : List.take n (by8 b) = by8 (b.take n) := by simp [by8, List.map_take]
theorem option_eq {k : Nat} (K : Int × Nat × Int × List CV × Int × List CV → Option X) (b : List Int) (last : Int) (cnt a : Nat) (hb : Byt b) (ha : a < b.length) (hl : b.length ≤ 1000000) (h0 : 0 ≤ last) (h1 : last ≤ 65535) (hc : cnt ≤ 24) :
    f47 k K last (cnt : Int) (by8 b) (a : Int) = match rdO b last cnt a with | .inl (e, q) => K (0, 0, e, by8 b, (q : Int), by8 []) | .inr (num, q, n) => K (num, ((b.drop q).take n.toNat).length, 0, by8 b, ((q + n.toNat : Nat) : Int), by8 ((b.drop q).take n.toNat)) := by
  have g := gtB hb a
  unfold f47 f47_A f47_T
  refine (grdT (dec0 _)).trans ?_
  rw [Int.toNat_natCast]
  refine (bAt (gtE ha) _).trans ?_
  refine (grdT rfl).trans ?_
  rw [show CV.toI (CV.int .u8 (gt b a)) = gt b a from rfl, wrap64 (n := gt b a) (by omega) (by omega), fdiv_eq _ (by decide), show (2 : Int) ^ 4 = 16 from rfl, show bop .and .i64 (gt b a) 15 = gt b a % 16 from bop_mask64 (gt b a) 4 (by decide)]
  unfold rdO
  by_cases h15 : gt b a / 16 = 15 ∨ gt b a % 16 = 15
  · rw [if_pos h15]
    rcases h15 with h | h
    · exact bifT (beq_iff_eq.2 h)
    · by_cases h' : gt b a / 16 = 15
      · exact bifT (beq_iff_eq.2 h')
      · refine (bifF (beq_eq_false_iff_ne.2 h')).trans ?_
        exact bifT (beq_iff_eq.2 h)
  · rw [if_neg h15]
    refine (bifF (beq_eq_false_iff_ne.2 fun h => h15 (.inl h))).trans ?_
    refine (bifF (beq_eq_false_iff_ne.2 fun h => h15 (.inr h))).trans ?_
    rw [wrap64_s (by omega)]
    refine (number_eq _ b (a + 1) _ hb (by omega) hl (by omega) (by omega)).trans ?_
    cases e1 : rdNum b (a + 1) (gt b a / 16) with
    | none => exact bifT rfl
    | some dp =>
      obtain ⟨d, p⟩ := dp
      have b1 := rdNum_bnd hb (by omega) (by omega) e1
      refine (bifF rfl).trans ?_
      dsimp only
      refine (number_eq _ b p _ hb b1.2.1 hl (by omega) (by omega)).trans ?_
      cases e2 : rdNum b p (gt b a % 16) with
      | none => exact bifT rfl
      | some nq =>
        obtain ⟨n, q⟩ := nq
        have b2 := rdNum_bnd hb b1.2.1 (by omega) e2
        refine (bifF rfl).trans ?_
        dsimp only
        rw [by8_length, wrap64 (n := last + d) (by omega) (by omega), wrap64 (n := (b.length : Int) - (q : Int)) (by omega) (by omega)]
        by_cases c1 : cnt ≥ 24
        · rw [if_pos c1]
          exact bifT (beq_iff_eq.2 (by omega))
        rw [if_neg c1]
        refine (bifF (beq_eq_false_iff_ne.2 (by omega))).trans ?_
        by_cases c2 : last + d > 65535
        · rw [if_pos c2]; exact bifT (decide_eq_true c2)
        rw [if_neg c2]
        refine (bifF (decide_eq_false c2)).trans ?_
        by_cases c3 : n > 300
        · rw [if_pos c3]; exact bifT (decide_eq_true c3)
        rw [if_neg c3]
        refine (bifF (decide_eq_false c3)).trans ?_
        by_cases c4 : n > (b.length : Int) - q
        · rw [if_pos c4]; exact bifT (decide_eq_true c4)
        rw [if_neg c4]
        refine (bifF (decide_eq_false c4)).trans ?_
        rw [wrap64 (n := (q : Int) + n) (by omega) (by omega)]
        refine (grdT (decide_eq_true (by omega))).trans ?_
        refine (grdT (decide_eq_true (by omega))).trans ?_
        refine (grdT (decide_eq_true (by omega))).trans ?_
        rw [show (q : Int) + n = ((q + n.toNat : Nat) : Int) from by omega, Int.toNat_natCast, Int.toNat_natCast, show q + n.toNat - q = n.toNat from by omega, by8_drop, by8_take]
        refine (clone_eq _ _ (by rw [by8_length, List.length_take]; omega)).trans ?_
        rw [by8_length, t8]
/-- The options of bytes. -/
def rd : Nat → List Int → Int → List Op → Nat → Int × Nat × List Op
  | 0, _, _, _, _ => (99, 0, [])
  | kk + 1, b, last, acc, a =>
    if a < b.length ∧ gt b a ≠ 255 then
      match rdO b last acc.length a with
      | .inl (e, _) => (e, 0, [])
      | .inr (num, q, n) => rd kk b num (acc ++ [(num, (b.drop q).take n.toNat)]) (q + n.toNat)
    else (0, a, acc)
def rdK (K : Nat × Int × Int × List CV → Option X) (r : Int × Nat × List Op) : Option X := K (r.2.2.length, (r.2.1 : Int), r.1, ops r.2.2)
theorem readL {k : Nat} (K : Nat × Int × Int × List CV → Option X) (b : List Int) (hb : Byt b) (hl : b.length ≤ 1000000) : ∀ (kk : Nat) (last : Int) (acc : List Op) (a : Nat), b.length - a < kk → a ≤ b.length → 0 ≤ last → last ≤ 65535 → acc.length ≤ 24 →
    iterV (f33_L1 (fun X => @f47 X k) k K) kk (by8 b, acc.length, last, ops acc, by8 b, (a : Int)) = rdK K (rd kk b last acc a)
  | 0, last, acc, a, h, _, _, _, _ => absurd h (Nat.not_lt_zero _)
  | kk + 1, last, acc, a, h, ha, h0, h1, hc => by
    refine (iterV_one _ _ _).trans ?_
    have ih := readL K b hb hl kk (k := k)
    generalize iterV (f33_L1 (fun X => @f47 X k) k K) kk = rec at ih ⊢
    unfold f33_L1 f33_T1 rd
    dsimp only
    rcases Nat.lt_or_ge a b.length with hl' | hl'
    · refine (bifT (decide_eq_true (by rw [by8_length]; omega))).trans ?_
      refine (grdT (dec0 _)).trans ?_
      rw [Int.toNat_natCast]
      refine (bAt (gtE hl') _).trans ?_
      refine (grdT rfl).trans ?_
      rw [show CV.toI (CV.int .u8 (gt b a)) = gt b a from rfl]
      by_cases h255 : gt b a = 255
      · rw [if_neg (fun h => h.2 h255)]
        refine (bifF (by simp [h255])).trans ?_
        rw [Nat.zero_add, tO]; rfl
      · rw [if_pos ⟨hl', h255⟩]
        refine (bifT (bne_iff_ne.2 h255)).trans ?_
        refine (option_eq _ b last acc.length a hb hl' hl h0 h1 hc).trans ?_
        cases e : rdO b last acc.length a with
        | inl eq =>
          obtain ⟨e', q⟩ := eq
          have := rdO_err e
          have hne : (e' != 0) = true := bne_iff_ne.2 (by omega)
          exact bifT hne
        | inr o =>
          obtain ⟨num, q, n⟩ := o
          have bd := rdO_bnd hb hl' h0 e
          refine (bifF rfl).trans ?_
          dsimp only
          rw [d8, show List.take 1 (List.drop 0 [CV.agg [CV.int .i64 num, CV.slc none (by8 (List.take n.toNat (List.drop q b)))]]) = ops [(num, List.take n.toNat (List.drop q b))] from rfl, tO, ← ops_append]
          refine (grdT (decide_eq_true (by simp [ops_length]; omega))).trans ?_
          have := ih num (acc ++ [(num, List.take n.toNat (List.drop q b))]) (q + n.toNat) (by omega) (by omega) (by omega) (by omega) (by simp; omega)
          rw [List.length_append] at this
          rw [ops_length]
          exact this
    · rw [if_neg (fun h => absurd h.1 (by omega))]
      refine (bifF (decide_eq_false (by rw [by8_length]; omega))).trans ?_
      rw [Nat.zero_add, tO]; rfl
theorem optR_eq {k : Nat} (K : Nat × Int × Int × List CV → Option X) (b : List Int) (hb : Byt b) (hl : b.length ≤ 1000000) (hk : 1000000 < k) : f33 k K (by8 b) = rdK K (rd k b 0 [] 0) :=
  readL K b hb hl k 0 [] 0 (by omega) (by omega) (by omega) (by omega) (by simp)
end
section
variable {X : Type}
/-- Nothing, of a size. -/
theorem grow_eq {k : Nat} (K : List CV → Option X) (n : Nat) (h : n ≤ 1000000) : f46 k K (n : Int) = K [] := by
  unfold f46 f46_A f46_T
  rw [wrap64 (n := (n : Int) - 0) (by omega) (by omega), Int.sub_zero, Int.toNat_natCast, List.length_replicate]
  refine (bifF (decide_eq_false (by omega))).trans ?_
  by_cases h0 : n = 0
  · subst h0; rfl
  · refine (bifT (decide_eq_true (by omega))).trans ?_
    refine (grdT (dec0 _)).trans ?_
    refine (grdT (decide_eq_true (by omega))).trans ?_
    refine (grdT (decide_eq_true (by omega))).trans ?_
    rfl
theorem parts_nth (ps : List (List Int)) (i : Nat) (h : i < ps.length) : (parts ps)[i]? = some (.slc none (by8 ps[i])) := by simp [parts, List.getElem?_eq_getElem h]
theorem flat_succ (ps : List (List Int)) (i : Nat) (h : i < ps.length) : (ps.take (i + 1)).flatten = (ps.take i).flatten ++ ps[i] := by
  rw [← List.take_append_getElem h, List.flatten_append]; simp
theorem flat_le (ps : List (List Int)) (i : Nat) : (ps.take i).flatten.length ≤ ps.flatten.length := by
  conv => rhs; rw [← List.take_append_drop i ps, List.flatten_append, List.length_append]
  omega
theorem concat2 {k : Nat} (K : Nat × List CV → Option X) (ps : List (List Int)) (hk : ps.length < k) (hl : ps.flatten.length ≤ 1000000) (hp : ps.length ≤ 1000000) :
    iterV (f25_L2 (fun X => @f46 X k) k K) k (0, parts ps, ((parts ps).length : Int), 0, []) = K (ps.flatten.length, by8 ps.flatten) := by
  have hpl : (parts ps).length = ps.length := by simp [parts]
  refine iterV_spec (T := f25_L2 (fun X => @f46 X k) k K) (fun i => ((ps.take i).flatten.length, parts ps, ((parts ps).length : Int), (i : Int), by8 (ps.take i).flatten)) (fun i => K (ps.flatten.length, by8 ps.flatten)) ps.length (fun i rec h hr => ?_) (fun rec => ?_) k 0 (Nat.zero_le _) (by omega)
  · unfold f25_L2 f25_T2
    dsimp only
    refine (bifT (decide_eq_true (by rw [hpl]; omega))).trans ?_
    refine (grdT (dec0 _)).trans ?_
    rw [Int.toNat_natCast]
    refine (bAt (parts_nth ps i h) _).trans ?_
    refine (grdT rfl).trans ?_
    rw [show CV.toL (CV.slc none (by8 ps[i])) = by8 ps[i] from rfl, t8', ← by8_append, by8_length, ← List.length_append, ← flat_succ ps i h]
    have := flat_le ps (i + 1)
    refine (grdT (decide_eq_true (by omega))).trans ?_
    rw [wrap64_s (by omega), hr]
  · unfold f25_L2 f25_T2
    dsimp only
    refine (bifF (decide_eq_false (by rw [hpl]; omega))).trans ?_
    rw [t8, List.take_length]
theorem concat_eq {k : Nat} (K : Nat × List CV → Option X) (ps : List (List Int)) (hk : ps.length < k) (hl : ps.flatten.length ≤ 1000000) (hp : ps.length ≤ 1000000) :
    f25 k K (parts ps) = K (ps.flatten.length, by8 ps.flatten) := by
  have hpl : (parts ps).length = ps.length := by simp [parts]
  refine iterV_spec (T := f25_L1 (fun X => @f46 X k) k K) (fun i => (parts ps, ((ps.take i).flatten.length : Int), parts ps, ((parts ps).length : Int), (i : Int))) (fun i => K (ps.flatten.length, by8 ps.flatten)) ps.length (fun i rec h hr => ?_) (fun rec => ?_) k 0 (Nat.zero_le _) (by omega)
  · unfold f25_L1 f25_T1
    dsimp only
    refine (bifT (decide_eq_true (by rw [hpl]; omega))).trans ?_
    refine (grdT (dec0 _)).trans ?_
    rw [Int.toNat_natCast]
    refine (bAt (parts_nth ps i h) _).trans ?_
    refine (grdT rfl).trans ?_
    have := flat_le ps (i + 1)
    have hf : ((ps.take i).flatten.length : Int) + (ps[i].length : Int) = ((ps.take (i + 1)).flatten.length : Int) := by rw [flat_succ ps i h, List.length_append]; push_cast; rfl
    rw [show CV.toL (CV.slc none (by8 ps[i])) = by8 ps[i] from rfl, by8_length, hf, wrap64 (n := ((ps.take (i + 1)).flatten.length : Int)) (by omega) (by omega)]
    refine (bifF (decide_eq_false (by omega))).trans ?_
    rw [wrap64_s (by omega), hr]
  · unfold f25_L1 f25_T1
    dsimp only
    refine (bifF (decide_eq_false (by rw [hpl]; omega))).trans ?_
    rw [List.take_length]
    refine (grow_eq _ _ hl).trans ?_
    exact concat2 K ps hk hl hp
/-- A message. -/
structure Ms where
  kind : Int
  code : Int
  id : Int
  tok : List Int
  opts : List Op
  body : List Int
def Ms.cv (m : Ms) : CV := .agg [.int .i64 m.kind, .int .i64 m.code, .int .i64 m.id, .slc none (by8 m.tok), .slc (some 2) (ops m.opts), .slc none (by8 m.body)]
def used (code : Int) : Bool := code / 32 != 1 && code / 32 != 6 && code / 32 != 7
theorem used_eq {k : Nat} (K : Bool → Option X) (c : Int) (h0 : 0 ≤ c) (h1 : c ≤ 255) : f22 k K c = K (used c) := by
  have e : f22 k K c = (fun u2 : Int => bif u2 == 0 then (bif u2 == 0 then K true else K false) else bif u2 == 2 then (bif u2 == 2 then K true else K false) else bif u2 == 3 then (bif u2 == 3 then K true else K false) else bif u2 == 4 then (bif u2 == 4 then K true else K false) else (bif u2 == 5 then K true else K false)) (Int.fdiv c 32) := by kernel_rfl
  rw [e, fdiv_eq _ (by decide)]
  unfold used
  have h : c / 32 = 0 ∨ c / 32 = 1 ∨ c / 32 = 2 ∨ c / 32 = 3 ∨ c / 32 = 4 ∨ c / 32 = 5 ∨ c / 32 = 6 ∨ c / 32 = 7 := by omega
  rcases h with h | h | h | h | h | h | h | h <;> rw [h] <;> rfl
def Bad (m : Ms) : Prop := m.kind < 0 ∨ m.kind > 3 ∨ m.code < 0 ∨ m.code > 255 ∨ used m.code = false ∨ m.id < 0 ∨ m.id > 65535 ∨ (m.code = 0 ∧ ¬ (m.tok = [] ∧ m.opts = [] ∧ m.body = []))
def Long (m : Ms) : Prop := m.tok.length > 8 ∨ m.body.length > 1200
def head (m : Ms) : List Int := [64 + 16 * m.kind + (m.tok.length : Int), m.code, m.id / 256, m.id % 256]
def tail (b : List Int) : List Int := if b = [] then [] else 255 :: b
open Classical in
noncomputable def msgW (m : Ms) : Int × List Int := if Bad m then (1, []) else if Long m then (2, []) else bif (optW m.opts).1 != 0 then ((optW m.opts).1, []) else (0, head m ++ m.tok ++ (optW m.opts).2 ++ tail m.body)
theorem len0 {α : Type} (l : List α) : (((l.length : Int) == 0) = true) ↔ l = [] := by
  rw [beq_iff_eq, ← List.length_eq_zero_iff]; omega
theorem bare_eq {k : Nat} (K : Bool → Option X) (m : Ms) : f23 k K m.cv = K (decide (m.tok = [] ∧ m.opts = [] ∧ m.body = [])) := by
  have e : f23 k K m.cv = (bif (((by8 m.tok).length : Int) == 0) then (bif (((ops m.opts).length : Int) == 0) then K (((by8 m.body).length : Int) == 0) else K false) else K false) := by kernel_rfl
  rw [e, by8_length, ops_length, by8_length]
  cases h1 : ((m.tok.length : Int) == 0) with
  | false =>
    have : ¬ m.tok = [] := fun h => by rw [(len0 _).2 h] at h1; cases h1
    rw [decide_eq_false fun h => this h.1]; rfl
  | true =>
    have h1 := (len0 _).1 h1
    cases h2 : ((m.opts.length : Int) == 0) with
    | false =>
      have : ¬ m.opts = [] := fun h => by rw [(len0 _).2 h] at h2; cases h2
      rw [decide_eq_false fun h => this h.2.1]; rfl
    | true =>
      have h2 := (len0 _).1 h2
      refine congrArg K ?_
      cases h3 : ((m.body.length : Int) == 0) with
      | false =>
        have : ¬ m.body = [] := fun h => by rw [(len0 _).2 h] at h3; cases h3
        rw [decide_eq_false fun h => this h.2.2]
      | true => rw [decide_eq_true ⟨h1, h2, (len0 _).1 h3⟩]
theorem headL {m : Ms} (h : ¬ Bad m) (hl : ¬ Long m) : IntKind.wrap .u8 (bop .or .i64 (bop .or .i64 64 (IntKind.wrap .i64 (m.kind * 2 ^ 4))) (m.tok.length : Int)) = 64 + 16 * m.kind + (m.tok.length : Int) := by
  unfold Bad at h
  unfold Long at hl
  have hk : m.kind = 0 ∨ m.kind = 1 ∨ m.kind = 2 ∨ m.kind = 3 := by omega
  have ht : m.tok.length ≤ 8 := by omega
  generalize m.tok.length = t at *
  have : t = 0 ∨ t = 1 ∨ t = 2 ∨ t = 3 ∨ t = 4 ∨ t = 5 ∨ t = 6 ∨ t = 7 ∨ t = 8 := by omega
  rcases hk with e | e | e | e <;> rw [e] <;> rcases this with e | e | e | e | e | e | e | e | e <;> rw [e] <;> decide
theorem headR {m : Ms} (h : ¬ Bad m) (hl : ¬ Long m) : IntKind.wrap .u8 (IntKind.wrap .i64 (IntKind.wrap .i64 (64 + IntKind.wrap .i64 (16 * m.kind)) + (m.tok.length : Int))) = 64 + 16 * m.kind + (m.tok.length : Int) := by
  unfold Bad at h
  unfold Long at hl
  rw [wrap64 (n := 16 * m.kind) (by omega) (by omega), wrap64 (n := 64 + 16 * m.kind) (by omega) (by omega), wrap64 (n := 64 + 16 * m.kind + (m.tok.length : Int)) (by omega) (by omega), u8_small (by omega) (by omega)]
theorem enc_len : ∀ (l : List Op) (last : Int), Okk last l → (enc last l).length ≤ 400 * l.length
  | [], _, _ => by simp [enc]
  | o :: l, last, h => by
    have := enc_len l o.1 h.2.2.2.2
    have c := chunk_len last o h.2.1
    have := h.2.2.2.1
    simp only [enc, List.length_append, List.length_cons]
    omega
theorem optW_len (l : List Op) : (optW l).2.length ≤ 10000 := by
  unfold optW
  cases h : flt l != 0 with
  | true => simp
  | false =>
    have h0 : flt l = 0 := by simpa using h
    have h1 := flt_ok h0
    have := enc_len _ 0 (okk_isort h0)
    rw [isort_len] at this
    show (enc 0 (isort l)).length ≤ 10000
    omega
end
section
variable {X : Type}
def Res (K : Nat × Int × List CV → Option X) (r : Int × List Int) : Option X := K (r.2.length, r.1, by8 r.2)
theorem msgW_bad {m : Ms} (h : Bad m) : msgW m = (1, []) := if_pos h
theorem msgW_long {m : Ms} (h : ¬ Bad m) (hl : Long m) : msgW m = (2, []) := by unfold msgW; rw [if_neg h, if_pos hl]
theorem w3_bad {k : Nat} (K : Nat × Int × List CV → Option X) (m : Ms) (h : Bad m) : f8_J3 (fun X => @f22 X k) (fun X => @f23 X k) (fun X => @f24 X k) (fun X => @f25 X k) k K m.cv true = Res K (msgW m) := by
  rw [msgW_bad h]; rfl
theorem w2_eq {k : Nat} (K : Nat × Int × List CV → Option X) (m : Ms) (hb : ¬ Bad m) (v : Bool) (hv : v = true ↔ Long m) (hk : 1000000 < k) (ho : m.opts.length < 1000) : f8_J2 (fun X => @f22 X k) (fun X => @f23 X k) (fun X => @f24 X k) (fun X => @f25 X k) k K m.cv v = Res K (msgW m) := by
  cases v with
  | true => rw [msgW_long hb (hv.1 rfl)]; rfl
  | false =>
    have hl : ¬ Long m := fun h => by cases hv.2 h
    have hB := hb
    have hL := hl
    unfold Bad at hb
    unfold Long at hl
    unfold f8_J2
    refine (bifF rfl).trans ?_
    refine (optW_eq _ m.opts hk ho).trans ?_
    unfold msgW
    rw [if_neg hB, if_neg hL]
    cases h : (optW m.opts).1 != 0 with
    | true => rfl
    | false =>
      refine (bifF rfl).trans ?_
      have ol := optW_len m.opts
      have e4 : ∀ x : Int, IntKind.wrap .u8 (bop .or .i64 (bop .or .i64 64 (IntKind.wrap .i64 (m.kind * 2 ^ 4))) (((by8 m.tok).length : Nat) : Int)) = 64 + 16 * m.kind + (m.tok.length : Int) := fun _ => by rw [by8_length]; exact headL hB hL
      show f25 k _ [CV.slc none [CV.int .u8 (IntKind.wrap .u8 (bop .or .i64 (bop .or .i64 64 (IntKind.wrap .i64 (m.kind * 2 ^ 4))) (((by8 m.tok).length : Nat) : Int))), CV.int .u8 (IntKind.wrap .u8 m.code), CV.int .u8 (IntKind.wrap .u8 (Int.fdiv m.id 256)), CV.int .u8 (IntKind.wrap .u8 m.id)], CV.slc none (by8 m.tok), CV.slc none (List.take (optW m.opts).2.length (by8 (optW m.opts).2))] = _
      rw [e4 0, t8', fdiv_eq _ (by decide), u8_small (n := m.code) (by omega) (by omega), u8_small (n := m.id / 256) (by omega) (by omega), wrapU8 m.id]
      show f25 k _ (parts [head m, m.tok, (optW m.opts).2]) = _
      have ef : [head m, m.tok, (optW m.opts).2].flatten = head m ++ m.tok ++ (optW m.opts).2 := by simp
      have hhl : (head m).length = 4 := rfl
      have el : (head m ++ m.tok ++ (optW m.opts).2).length ≤ 20000 := by simp only [List.length_append]; omega
      refine (concat_eq _ _ (by simp; omega) (by rw [ef]; omega) (by simp)).trans ?_
      rw [ef]
      generalize head m ++ m.tok ++ (optW m.opts).2 = P at el
      by_cases hbody : m.body = []
      · refine (bifF (decide_eq_false (by show ¬ ((by8 m.body).length : Int) > 0; rw [by8_length, hbody]; simp))).trans ?_
        show K (P.length, 0, List.take (0 + P.length) (by8 P)) = K ((P ++ tail m.body).length, 0, by8 (P ++ tail m.body))
        rw [t8, hbody, show tail [] = [] from rfl, List.append_nil]
      · have hbl : 0 < m.body.length := List.length_pos_iff.2 hbody
        refine (bifT (decide_eq_true (by show ((by8 m.body).length : Int) > 0; rw [by8_length]; omega))).trans ?_
        have e5 : P ++ tail m.body = P ++ [255] ++ m.body := by unfold tail; rw [if_neg hbody]; simp
        rw [e5]
        show grd (decide ((P.length + (by8 [255]).length) * 1 ≤ 140737488355328)) (grd (decide ((P.length + (by8 [255]).length + (by8 m.body).length) * 1 ≤ 140737488355328)) (K (P.length + (by8 [255]).length + (by8 m.body).length, 0, List.take (0 + (P.length + (by8 [255]).length + (by8 m.body).length)) (List.take (P.length + (by8 [255]).length) (List.take P.length (by8 P) ++ by8 [255]) ++ by8 m.body)))) = _
        simp only [by8_length, t8', ← by8_append, ← List.length_append, t8]
        refine (grdT (decide_eq_true (by simp; omega))).trans ?_
        exact grdT (decide_eq_true (by simp; omega))
theorem w3_eq {k : Nat} (K : Nat × Int × List CV → Option X) (m : Ms) (hb : ¬ Bad m) (hk : 1000000 < k) (ho : m.opts.length < 1000) : f8_J3 (fun X => @f22 X k) (fun X => @f23 X k) (fun X => @f24 X k) (fun X => @f25 X k) k K m.cv false = Res K (msgW m) := by
  unfold f8_J3
  refine (bifF rfl).trans ?_
  show (bif decide (((by8 m.tok).length : Int) > 8) then f8_J2 _ _ _ _ k K m.cv (decide (((by8 m.tok).length : Int) > 8)) else f8_J2 _ _ _ _ k K m.cv (decide (((by8 m.body).length : Int) > 1200))) = _
  rw [by8_length, by8_length]
  by_cases h : (m.tok.length : Int) > 8
  · refine (bifT (decide_eq_true h)).trans ?_
    refine w2_eq K m hb _ ⟨fun _ => .inl (by omega), fun _ => decide_eq_true h⟩ hk ho
  · refine (bifF (decide_eq_false h)).trans ?_
    refine w2_eq K m hb _ ⟨fun h' => .inr (by have := of_decide_eq_true h'; omega), fun h' => decide_eq_true (by unfold Long at h'; omega)⟩ hk ho
theorem write_eq {k : Nat} (K : Nat × Int × List CV → Option X) (m : Ms) (hk : 1000000 < k) (ho : m.opts.length < 1000) : f8 k K m.cv = Res K (msgW m) := by
  unfold f8 f8_A f8_T
  refine (grdT rfl).trans ?_
  refine (grdT rfl).trans ?_
  refine (grdT rfl).trans ?_
  refine (grdT rfl).trans ?_
  refine (grdT rfl).trans ?_
  refine (grdT rfl).trans ?_
  refine (grdT rfl).trans ?_
  by_cases c1 : m.kind < 0
  · refine (bifT (decide_eq_true c1)).trans ?_
    exact w3_bad K m (.inl c1)
  refine (bifF (decide_eq_false c1)).trans ?_
  by_cases c2 : m.kind > 3
  · refine (bifT (decide_eq_true c2)).trans ?_
    rw [show decide (CV.toI (CV.cellD 0 m.cv) > 3) = true from decide_eq_true c2]
    exact w3_bad K m (.inr (.inl c2))
  refine (bifF (decide_eq_false c2)).trans ?_
  by_cases c3 : m.code < 0
  · refine (bifT (decide_eq_true c3)).trans ?_
    exact w3_bad K m (.inr (.inr (.inl c3)))
  refine (bifF (decide_eq_false c3)).trans ?_
  by_cases c4 : m.code > 255
  · refine (bifT (decide_eq_true c4)).trans ?_
    exact w3_bad K m (.inr (.inr (.inr (.inl c4))))
  refine (bifF (decide_eq_false c4)).trans ?_
  refine (used_eq _ m.code (by omega) (by omega)).trans ?_
  cases c5 : used m.code with
  | false =>
    refine (bifT rfl).trans ?_
    exact w3_bad K m (.inr (.inr (.inr (.inr (.inl c5)))))
  | true =>
    refine (bifF rfl).trans ?_
    by_cases c6 : m.id < 0
    · refine (bifT (decide_eq_true c6)).trans ?_
      exact w3_bad K m (.inr (.inr (.inr (.inr (.inr (.inl c6))))))
    refine (bifF (decide_eq_false c6)).trans ?_
    by_cases c7 : m.id > 65535
    · refine (bifT (decide_eq_true c7)).trans ?_
      rw [show decide (CV.toI (CV.cellD 2 m.cv) > 65535) = true from decide_eq_true c7]
      exact w3_bad K m (.inr (.inr (.inr (.inr (.inr (.inr (.inl c7)))))))
    refine (bifF (decide_eq_false c7)).trans ?_
    by_cases c8 : m.code = 0
    · refine (bifT (beq_iff_eq.2 c8)).trans ?_
      refine (bare_eq _ m).trans ?_
      by_cases c9 : m.tok = [] ∧ m.opts = [] ∧ m.body = []
      · rw [decide_eq_true c9]
        refine w3_eq K m (fun h => ?_) hk ho
        unfold Bad at h
        rw [c5] at h
        rcases h with h | h | h | h | h | h | h | h
        · exact c1 h
        · exact c2 h
        · exact c3 h
        · exact c4 h
        · cases h
        · exact c6 h
        · exact c7 h
        · exact h.2 c9
      · rw [decide_eq_false c9]
        exact w3_bad K m (.inr (.inr (.inr (.inr (.inr (.inr (.inr ⟨c8, c9⟩)))))))
    · refine (bifF (beq_eq_false_iff_ne.2 c8)).trans ?_
      refine w3_eq K m (fun h => ?_) hk ho
      unfold Bad at h
      rw [c5] at h
      rcases h with h | h | h | h | h | h | h | h
      · exact c1 h
      · exact c2 h
      · exact c3 h
      · exact c4 h
      · cases h
      · exact c6 h
      · exact c7 h
      · exact c8 h.1
/-- Few bytes. -/
def fewO (l : List Op) : Bool := decide (l.length ≤ 40) && l.all fun o => decide (o.2.length ≤ 400)
def few (m : Ms) : Bool := decide (m.tok.length ≤ 100) && decide (m.body.length ≤ 2000) && fewO m.opts
theorem fewO_eq {k : Nat} (K : Bool → Option X) (l : List Op) (hk : 100 < k) : f21 k K (ops l) = K (fewO l) := by
  unfold f21 f21_A f21_T fewO
  rw [ops_length]
  by_cases h : (l.length : Int) > 40
  · rw [show decide (l.length ≤ 40) = false from decide_eq_false (by omega)]
    exact bifT (decide_eq_true h)
  · rw [show decide (l.length ≤ 40) = true from decide_eq_true (by omega)]
    refine (bifF (decide_eq_false h)).trans ?_
    refine iterV_spec (T := f21_L1 k K) (fun i => (ops l, (i : Int))) (fun i => K ((l.drop i).all fun o => decide (o.2.length ≤ 400))) l.length (fun i rec h hr => ?_) (fun rec => ?_) k 0 (Nat.zero_le _) (by omega)
    · unfold f21_L1 f21_T1
      dsimp only
      refine (bifT (decide_eq_true (by rw [ops_length]; omega))).trans ?_
      refine (grdT (dec0 _)).trans ?_
      rw [Int.toNat_natCast]
      refine (bAt (ops_nth l i h) _).trans ?_
      refine (bAt (opv1 _) _).trans ?_
      refine (grdT rfl).trans ?_
      rw [show CV.toL (CV.slc none (by8 l[i].2)) = by8 l[i].2 from rfl, by8_length]
      rw [List.drop_eq_getElem_cons h, List.all_cons]
      by_cases h1 : (l[i].2.length : Int) > 400
      · rw [show decide (l[i].2.length ≤ 400) = false from decide_eq_false (by omega)]
        exact bifT (decide_eq_true h1)
      · rw [show decide (l[i].2.length ≤ 400) = true from decide_eq_true (by omega)]
        refine (bifF (decide_eq_false h1)).trans ?_
        rw [wrap64_s (by omega), hr]; rfl
    · unfold f21_L1 f21_T1
      dsimp only
      refine (bifF (decide_eq_false (by rw [ops_length]; omega))).trans ?_
      rw [List.drop_length]; rfl
theorem few_eq {k : Nat} (K : Bool → Option X) (m : Ms) (hk : 100 < k) : f7 k K m.cv = K (few m) := by
  have e : f7 k K m.cv = (bif decide (((by8 m.tok).length : Int) ≤ 100) then (bif decide (((by8 m.body).length : Int) ≤ 2000) then f21 k K (ops m.opts) else K false) else K false) := by kernel_rfl
  rw [e, by8_length, by8_length, fewO_eq _ _ hk]
  unfold few
  rw [show decide ((m.tok.length : Int) ≤ 100) = decide (m.tok.length ≤ 100) from decide_eq_decide.2 (by omega), show decide ((m.body.length : Int) ≤ 2000) = decide (m.body.length ≤ 2000) from decide_eq_decide.2 (by omega)]
  cases decide (m.tok.length ≤ 100) <;> cases decide (m.body.length ≤ 2000) <;> rfl
theorem few_len {m : Ms} (h : few m = true) : m.opts.length ≤ 40 ∧ m.tok.length ≤ 100 ∧ m.body.length ≤ 2000 ∧ ∀ o ∈ m.opts, o.2.length ≤ 400 := by
  simp only [few, fewO, Bool.and_eq_true, decide_eq_true_eq, List.all_eq_true] at h
  exact ⟨h.2.1, h.1.1, h.1.2, h.2.2⟩
theorem msgW_len (m : Ms) : (msgW m).2.length ≤ 20000 := by
  unfold msgW
  split
  · simp
  · split
    · simp
    · next hl =>
      unfold Long at hl
      have := optW_len m.opts
      cases (optW m.opts).1 != 0 with
      | true => simp
      | false =>
        show (head m ++ m.tok ++ (optW m.opts).2 ++ tail m.body).length ≤ 20000
        have : (tail m.body).length ≤ m.body.length + 1 := by unfold tail; split <;> simp
        have hhl : (head m).length = 4 := rfl
        simp only [List.length_append]
        omega
end
section
variable {X : Type}
def ms0 : Ms := ⟨0, 0, 0, [], [], []⟩
abbrev OutR := Int × Int × Int × Nat × Nat × Nat × Int × List CV × List CV × List CV
def ResR (K : OutR → Option X) (r : Int × Ms) : Option X := K (r.2.kind, r.2.code, r.2.id, r.2.tok.length, r.2.opts.length, r.2.body.length, r.1, by8 r.2.tok, ops r.2.opts, by8 r.2.body)
/-- A token's size. -/
def tk (b : List Int) : Nat := (gt b 0 % 16).toNat
def NoHead (b : List Int) : Prop := b.length < 4 ∨ gt b 0 / 64 ≠ 1
def BadHead (b : List Int) : Prop := tk b > 8 ∨ used (gt b 1) = false ∨ (gt b 1 = 0 ∧ b.length ≠ 4) ∨ b.length < 4 + tk b
def msB (b : List Int) (os : List Op) (rest : List Int) : Ms := ⟨gt b 0 / 16 % 4, gt b 1, gt b 2 * 256 + gt b 3, (b.drop 4).take (tk b), os, rest.drop 1⟩
open Classical in
noncomputable def msgR (k : Nat) (b : List Int) : Int × Ms :=
  if NoHead b then (20, ms0) else if BadHead b then (20, ms0) else
  if (rd k (b.drop (4 + tk b)) 0 [] 0).1 ≠ 0 then ((rd k (b.drop (4 + tk b)) 0 [] 0).1, ms0) else
  if ((b.drop (4 + tk b)).drop (rd k (b.drop (4 + tk b)) 0 [] 0).2.1).length = 1 then (20, ms0) else
  if ((b.drop (4 + tk b)).drop (rd k (b.drop (4 + tk b)) 0 [] 0).2.1).length > 1201 then (2, ms0) else
  (0, msB b (rd k (b.drop (4 + tk b)) 0 [] 0).2.2 ((b.drop (4 + tk b)).drop (rd k (b.drop (4 + tk b)) 0 [] 0).2.1))
theorem and15 {c : Int} (h : 0 ≤ c) (h2 : c < 256) : bop .and .u8 c 15 = c % 16 := by
  obtain ⟨n, rfl⟩ := Int.eq_ofNat_of_zero_le h
  have : ∀ n : Nat, n < 256 → bop .and .u8 (n : Int) 15 = (n : Int) % 16 := by decide +kernel
  exact this n (by omega)
theorem and192 {c : Int} (h : 0 ≤ c) (h2 : c < 256) : (bop .and .u8 c 192 == 64) = decide (c / 64 = 1) := by
  obtain ⟨n, rfl⟩ := Int.eq_ofNat_of_zero_le h
  have : ∀ n : Nat, n < 256 → (bop .and .u8 (n : Int) 192 == 64) = decide ((n : Int) / 64 = 1) := by decide +kernel
  exact this n (by omega)
theorem and48 {c : Int} (h : 0 ≤ c) (h2 : c < 256) : IntKind.wrap .i64 (Int.tdiv (IntKind.wrap .i64 (bop .and .u8 c 48)) 16) = c / 16 % 4 := by
  obtain ⟨n, rfl⟩ := Int.eq_ofNat_of_zero_le h
  have : ∀ n : Nat, n < 256 → IntKind.wrap .i64 (Int.tdiv (IntKind.wrap .i64 (bop .and .u8 (n : Int) 48)) 16) = (n : Int) / 16 % 4 := by decide +kernel
  exact this n (by omega)
theorem or_byte {a b : Int} (ha : 0 ≤ a) (ha2 : a < 256) (hb : 0 ≤ b) (hb2 : b < 256) : bop .or .i64 (IntKind.wrap .i64 (a * 2 ^ 8)) b = a * 256 + b := by
  obtain ⟨x, rfl⟩ := Int.eq_ofNat_of_zero_le ha
  obtain ⟨y, rfl⟩ := Int.eq_ofNat_of_zero_le hb
  rw [wrap64 (by omega) (by omega)]
  rw [show ((x : Int) * 2 ^ 8) = ((x * 2 ^ 8 : Nat) : Int) from by omega]
  rw [bop_or64 (by omega) (by omega), or_add (by omega)]
  omega
theorem toI8 (n : Int) : CV.toI (CV.int .u8 n) = n := rfl
theorem sniff_no {k : Nat} (K : Int × Int × Bool → Option X) (b : List Int) (hb : Byt b) (h : NoHead b) : f32 k K (by8 b) = K (0, 0, false) := by
  have g := gtB hb 0
  unfold f32 f32_A f32_T
  rw [by8_length]
  by_cases h4 : b.length < 4
  · exact bifT (decide_eq_true (by omega))
  refine (bifF (decide_eq_false (by omega))).trans ?_
  refine (bAt (gtE (by omega)) _).trans ?_
  refine (grdT rfl).trans ?_
  rw [toI8, fdiv_eq _ (by decide)]
  exact bifT (bne_iff_ne.2 fun e => h.elim h4 (fun h => h e))
theorem sniff_yes {k : Nat} (K : Int × Int × Bool → Option X) (b : List Int) (hb : Byt b) (h : ¬ NoHead b) : f32 k K (by8 b) = K (gt b 0 / 16 % 4, gt b 2 * 256 + gt b 3, true) := by
  have g := gtB hb 0
  have g2 := gtB hb 2
  have g3 := gtB hb 3
  have h4 : ¬ b.length < 4 := fun e => h (.inl e)
  have h1 : gt b 0 / 64 = 1 := Classical.byContradiction fun e => h (.inr e)
  unfold f32 f32_A f32_T
  rw [by8_length]
  refine (bifF (decide_eq_false (by omega))).trans ?_
  refine (bAt (gtE (by omega)) _).trans ?_
  refine (grdT rfl).trans ?_
  rw [toI8, fdiv_eq _ (by decide)]
  refine (bifF (by rw [show (2 : Int) ^ 6 = 64 from rfl, h1]; rfl)).trans ?_
  refine (bAt (gtE (by omega)) _).trans ?_
  refine (grdT rfl).trans ?_
  refine (bAt (gtE (by omega)) _).trans ?_
  refine (grdT rfl).trans ?_
  refine (bAt (gtE (by omega)) _).trans ?_
  refine (grdT rfl).trans ?_
  rw [toI8, toI8, toI8, fdiv_eq _ (by decide), show (2 : Int) ^ 4 = 16 from rfl, wrap64 (n := gt b 0 / 16) (by omega) (by omega), wrap64 (n := gt b 2) (by omega) (by omega), wrap64 (n := gt b 3) (by omega) (by omega), or_byte g2.1 g2.2 g3.1 g3.2, show bop .and .i64 (gt b 0 / 16) 3 = gt b 0 / 16 % 4 from bop_mask64 _ 2 (by decide)]
theorem rd_bnd {b : List Int} (hb : Byt b) : ∀ (kk : Nat) (last : Int) (acc : List Op) (a : Nat), a ≤ b.length → b.length - a < kk → 0 ≤ last → acc.length ≤ 24 → ((rd kk b last acc a).1 = 0 → a ≤ (rd kk b last acc a).2.1 ∧ (rd kk b last acc a).2.1 ≤ b.length ∧ (rd kk b last acc a).2.2.length ≤ 24)
  | 0, _, _, _, _, h, _, _ => absurd h (Nat.not_lt_zero _)
  | kk + 1, last, acc, a, ha, h, h0, hc => fun e => by
    unfold rd at e ⊢
    split at e
    · next hg =>
      rw [if_pos hg]
      split at e
      · next he => have := rdO_err he; omega
      · next num q n he =>
        have bd := rdO_bnd hb hg.1 h0 he
        have := rd_bnd hb kk num (acc ++ [(num, (b.drop q).take n.toNat)]) (q + n.toNat) (by omega) (by omega) (by omega) (by simp; omega) e
        omega
    · next hg =>
      rw [if_neg hg]
      exact ⟨Nat.le_refl _, ha, hc⟩
theorem body_eq {k : Nat} (K : Nat × Int × List CV → Option X) (r : List Int) (hl : r.length ≤ 1000000) : f34 k K (by8 r) = if r.length = 1 then K (0, 20, []) else if r.length > 1201 then K (0, 2, []) else K ((r.drop 1).length, 0, by8 (r.drop 1)) := by
  unfold f34 f34_A f34_T
  rw [by8_length]
  by_cases h0 : r.length = 0
  · have : r = [] := List.length_eq_zero_iff.1 h0
    subst this; rfl
  refine (bifF (beq_eq_false_iff_ne.2 (by omega))).trans ?_
  by_cases h1 : r.length = 1
  · rw [if_pos h1]; exact bifT (beq_iff_eq.2 (by omega))
  rw [if_neg h1]
  refine (bifF (beq_eq_false_iff_ne.2 (by omega))).trans ?_
  rw [wrap64 (n := (r.length : Int) - 1) (by omega) (by omega)]
  by_cases h2 : r.length > 1201
  · rw [if_pos h2]; exact bifT (decide_eq_true (by omega))
  rw [if_neg h2]
  refine (bifF (decide_eq_false (by omega))).trans ?_
  refine (grdT (decide_eq_true (by omega))).trans ?_
  refine (grdT (decide_eq_true (by omega))).trans ?_
  rw [by8_drop, by8_take, show List.take (r.length - 1) (List.drop 1 r) = r.drop 1 from take_all _ _ (by rw [List.length_drop]; exact Nat.le_refl _)]
  refine (clone_eq _ _ (by rw [by8_length, List.length_drop]; omega)).trans ?_
  rw [by8_length, t8]
theorem drops {b : List Int} (n : Nat) : List.take (b.length - n) (List.drop n b) = b.drop n := take_all _ _ (by rw [List.length_drop]; exact Nat.le_refl _)
theorem msgR_no {k : Nat} {b : List Int} (h : NoHead b) : msgR k b = (20, ms0) := by unfold msgR; rw [if_pos h]
theorem msgR_bad {k : Nat} {b : List Int} (h : ¬ NoHead b) (h2 : BadHead b) : msgR k b = (20, ms0) := by unfold msgR; rw [if_neg h, if_pos h2]
theorem j1_eq {k : Nat} (K : OutR → Option X) (b : List Int) (hb : Byt b) (hk : 1000000 < k) (hl : b.length ≤ 100000) (h : ¬ NoHead b) (h2 : ¬ BadHead b) :
    f14_J1 (fun X => @f32 X k) (fun X => @f22 X k) (fun X => @f29 X k) (fun X => @f33 X k) (fun X => @f34 X k) k K (CV.int .u8 (gt b 1)) (gt b 0 / 16 % 4, gt b 2 * 256 + gt b 3, true) (by8 b) (tk b : Int) = ResR K (msgR k b) := by
  have hd := h2
  unfold BadHead at hd
  have hN : ¬ b.length < 4 := fun e => h (.inl e)
  have g1 := gtB hb 1
  have hlen : 4 + tk b ≤ b.length := by omega
  unfold f14_J1
  rw [wrap64 (n := 4 + (tk b : Int)) (by omega) (by omega), by8_length, show (4 : Int) + (tk b : Int) = ((4 + tk b : Nat) : Int) from by push_cast; rfl, Int.toNat_natCast]
  refine (grdT (decide_eq_true (by omega))).trans ?_
  refine (grdT (decide_eq_true (by omega))).trans ?_
  rw [show 4 + tk b - 4 = tk b from by omega, by8_drop, by8_take, by8_drop, by8_take, drops]
  refine (clone_eq _ _ (by rw [by8_length, List.length_take, List.length_drop]; omega)).trans ?_
  refine (grdT (dec0 _)).trans ?_
  refine (grdT (decide_eq_true (by omega))).trans ?_
  refine (grdT (decide_eq_true (by omega))).trans ?_
  refine (optR_eq _ _ (hb.drop _) (by rw [List.length_drop]; omega) hk).trans ?_
  unfold msgR rdK
  rw [if_neg h, if_neg h2]
  have bd := rd_bnd (hb.drop (4 + tk b)) k 0 [] 0 (Nat.zero_le _) (by rw [List.length_drop]; omega) (Int.le_refl _) (by simp)
  generalize rd k (b.drop (4 + tk b)) 0 [] 0 = r at bd ⊢
  obtain ⟨e, p, os⟩ := r
  dsimp only at bd ⊢
  by_cases he : e ≠ 0
  · rw [if_pos he]; exact bifT (bne_iff_ne.2 he)
  · rw [if_neg he]
    have he : e = 0 := Classical.byContradiction he
    refine (bifF (by rw [he]; rfl)).trans ?_
    have bd := bd he
    rw [by8_length, Int.toNat_natCast, by8_drop, show List.take ((List.drop (4 + tk b) b).length - p) (by8 (List.drop p (List.drop (4 + tk b) b))) = by8 (List.drop p (List.drop (4 + tk b) b)) from by rw [by8_take, drops]]
    refine (grdT (dec0 _)).trans ?_
    refine (grdT (decide_eq_true (by omega))).trans ?_
    refine (grdT (decide_eq_true (by omega))).trans ?_
    refine (body_eq _ _ (by rw [List.length_drop, List.length_drop]; omega)).trans ?_
    split
    · rfl
    · split
      · rfl
      · refine (bifF rfl).trans ?_
        dsimp only
        rw [t8, by8_length, t8, Nat.zero_add, tO, toI8, wrap64 (n := gt b 1) (by omega) (by omega)]
        rfl
theorem read_eq {k : Nat} (K : OutR → Option X) (b : List Int) (hb : Byt b) (hk : 1000000 < k) (hl : b.length ≤ 100000) : f14 k K (by8 b) = ResR K (msgR k b) := by
  unfold f14 f14_A f14_T
  by_cases h : NoHead b
  · refine (sniff_no _ b hb h).trans ?_
    rw [msgR_no h]
    exact bifT rfl
  · refine (sniff_yes _ b hb h).trans ?_
    refine (bifF rfl).trans ?_
    have hN : ¬ b.length < 4 := fun e => h (.inl e)
    have g0 := gtB hb 0
    have g1 := gtB hb 1
    refine (bAt (gtE (by omega)) _).trans ?_
    refine (grdT rfl).trans ?_
    refine (bAt (gtE (by omega)) _).trans ?_
    refine (grdT rfl).trans ?_
    have ht : IntKind.wrap .i64 (gt b 0 % 16) = (tk b : Int) := by rw [wrap64 (by omega) (by omega)]; unfold tk; omega
    simp only [toI8, and15 g0.1 g0.2, ht, wrap64 (n := gt b 1) (by omega) (by omega), by8_length]
    rw [wrap64 (n := 4 + (tk b : Int)) (by unfold tk; omega) (by unfold tk; omega)]
    by_cases c1 : tk b > 8
    · rw [msgR_bad h (.inl c1)]
      exact bifT (decide_eq_true (by omega))
    refine (bifF (decide_eq_false (by omega))).trans ?_
    refine (used_eq _ _ (by omega) (by omega)).trans ?_
    cases c2 : used (gt b 1) with
    | false =>
      rw [msgR_bad h (.inr (.inl c2))]
      exact bifT rfl
    | true =>
      refine (bifF rfl).trans ?_
      by_cases c3 : gt b 1 = 0
      · refine (bifT (beq_iff_eq.2 c3)).trans ?_
        by_cases c4 : b.length = 4
        · refine (bifF (decide_eq_false (by omega))).trans ?_
          by_cases c5 : b.length < 4 + tk b
          · rw [msgR_bad h (.inr (.inr (.inr c5)))]
            exact bifT (decide_eq_true (by omega))
          · refine (bifF (decide_eq_false (by omega))).trans ?_
            refine j1_eq K b hb hk hl h (fun e => ?_)
            unfold BadHead at e
            rw [c2] at e
            rcases e with e | e | e | e
            · exact c1 e
            · cases e
            · exact e.2 c4
            · exact c5 e
        · rw [msgR_bad h (.inr (.inr (.inl ⟨c3, c4⟩)))]
          exact bifT (decide_eq_true (by omega))
      · refine (bifF (beq_eq_false_iff_ne.2 c3)).trans ?_
        by_cases c5 : b.length < 4 + tk b
        · rw [msgR_bad h (.inr (.inr (.inr c5)))]
          exact bifT (decide_eq_true (by omega))
        · refine (bifF (decide_eq_false (by omega))).trans ?_
          refine j1_eq K b hb hk hl h (fun e => ?_)
          unfold BadHead at e
          rw [c2] at e
          rcases e with e | e | e | e
          · exact c1 e
          · cases e
          · exact c3 e.1
          · exact c5 e
end
section
variable {X : Type}
noncomputable instance : DecidableEq Ms := fun a b => Classical.propDecidable _
def Sm (m : Ms) : Prop := m.tok.length ≤ 100000 ∧ m.body.length ≤ 100000 ∧ m.opts.length ≤ 100000 ∧ ∀ o ∈ m.opts, o.2.length ≤ 100000
def BytO (l : List Op) : Prop := ∀ o ∈ l, Byt o.2
def BytM (m : Ms) : Prop := Byt m.tok ∧ Byt m.body ∧ BytO m.opts
theorem msameL (a b : Ms) (P : Bool → Option X) : (bif a.kind == b.kind then bif a.code == b.code then bif a.id == b.id then bif decide (a.tok = b.tok) then bif decide (a.opts = b.opts) then P (decide (a.body = b.body)) else P false else P false else P false else P false else P false) = P (decide (a = b)) := by
  obtain ⟨a1, a2, a3, a4, a5, a6⟩ := a
  obtain ⟨b1, b2, b3, b4, b5, b6⟩ := b
  dsimp only
  by_cases h1 : a1 = b1
  · refine (bifT (beq_iff_eq.2 h1)).trans ?_
    by_cases h2 : a2 = b2
    · refine (bifT (beq_iff_eq.2 h2)).trans ?_
      by_cases h3 : a3 = b3
      · refine (bifT (beq_iff_eq.2 h3)).trans ?_
        by_cases h4 : a4 = b4
        · refine (bifT (decide_eq_true h4)).trans ?_
          by_cases h5 : a5 = b5
          · refine (bifT (decide_eq_true h5)).trans ?_
            exact congrArg P (decide_eq_decide.2 ⟨fun e => by rw [h1, h2, h3, h4, h5, e], fun e => by cases e; rfl⟩)
          · refine (bifF (decide_eq_false h5)).trans ?_
            rw [decide_eq_false fun e => h5 (by cases e; rfl)]
        · refine (bifF (decide_eq_false h4)).trans ?_
          rw [decide_eq_false fun e => h4 (by cases e; rfl)]
      · refine (bifF (beq_eq_false_iff_ne.2 h3)).trans ?_
        rw [decide_eq_false fun e => h3 (by cases e; rfl)]
    · refine (bifF (beq_eq_false_iff_ne.2 h2)).trans ?_
      rw [decide_eq_false fun e => h2 (by cases e; rfl)]
  · refine (bifF (beq_eq_false_iff_ne.2 h1)).trans ?_
    rw [decide_eq_false fun e => h1 (by cases e; rfl)]
def asks (c : Int) : Bool := decide (1 ≤ c ∧ c ≤ 31)
def answ (c : Int) : Bool := decide (64 ≤ c ∧ c ≤ 95 ∨ 128 ≤ c ∧ c ≤ 191)
theorem request_eq {k : Nat} (K : Bool → Option X) (m : Ms) : f9 k K m.cv = K (asks m.code) := by
  have e : f9 k K m.cv = (bif Int.fdiv m.code 32 == 0 then K (m.code != 0) else K false) := by kernel_rfl
  rw [e, fdiv_eq _ (by decide)]
  unfold asks
  by_cases h : m.code / 32 = 0
  · refine (bifT (beq_iff_eq.2 h)).trans (congrArg K ?_)
    by_cases h0 : m.code = 0
    · rw [h0]; rfl
    · rw [bne_iff_ne.2 h0, decide_eq_true (by omega)]
  · refine (bifF (beq_eq_false_iff_ne.2 h)).trans ?_
    rw [decide_eq_false (by omega)]
/-- What is read is small, and bytes. -/
theorem rd_vals {b : List Int} (hb : Byt b) (N : Nat) (hN : b.length ≤ N) : ∀ (kk : Nat) (last : Int) (acc : List Op) (a : Nat), (∀ o ∈ acc, o.2.length ≤ N ∧ Byt o.2) → ∀ o ∈ (rd kk b last acc a).2.2, o.2.length ≤ N ∧ Byt o.2
  | 0, _, _, _, _ => fun o ho => by simp [rd] at ho
  | kk + 1, last, acc, a, h => by
    unfold rd
    split
    · split
      · exact fun o ho => by simp at ho
      · next num q n he =>
        refine rd_vals hb N hN kk num _ _ fun o ho => ?_
        rcases List.mem_append.1 ho with ho | ho
        · exact h o ho
        · rw [List.mem_singleton.1 ho]
          refine ⟨?_, (hb.drop q).take _⟩
          show (List.take n.toNat (List.drop q b)).length ≤ N
          rw [List.length_take, List.length_drop]; omega
    · exact h
theorem ms0_sm : Sm ms0 := ⟨by simp [ms0], by simp [ms0], by simp [ms0], fun o ho => by simp [ms0] at ho⟩
theorem ms0_byt : BytM ms0 := ⟨Byt.nil, Byt.nil, fun o ho => by simp [ms0] at ho⟩
theorem msgR_sm {k : Nat} {b : List Int} (hb : Byt b) (hl : b.length ≤ 100000) (hk : 1000000 < k) : Sm (msgR k b).2 ∧ BytM (msgR k b).2 := by
  unfold msgR
  split
  · exact ⟨ms0_sm, ms0_byt⟩
  split
  · exact ⟨ms0_sm, ms0_byt⟩
  split
  · exact ⟨ms0_sm, ms0_byt⟩
  split
  · exact ⟨ms0_sm, ms0_byt⟩
  split
  · exact ⟨ms0_sm, ms0_byt⟩
  next he _ _ =>
  have he := Classical.byContradiction he
  have bd := rd_bnd (hb.drop (4 + tk b)) k 0 [] 0 (Nat.zero_le _) (by rw [List.length_drop]; omega) (Int.le_refl _) (by simp) he
  have vs := rd_vals (hb.drop (4 + tk b)) 100000 (by rw [List.length_drop]; omega) k 0 [] 0 (fun o ho => by simp at ho)
  refine ⟨⟨?_, ?_, ?_, fun o ho => (vs o ho).1⟩, ⟨(hb.drop _).take _, ((hb.drop _).drop _).drop _, fun o ho => (vs o ho).2⟩⟩
  · show (List.take _ _).length ≤ _
    rw [List.length_take, List.length_drop]; omega
  · show (List.drop 1 _).length ≤ _
    rw [List.length_drop, List.length_drop, List.length_drop]; omega
  · show (rd k (b.drop (4 + tk b)) 0 [] 0).2.2.length ≤ _
    omega
theorem cvR (m : Ms) : CV.agg [.int .i64 m.kind, .int .i64 m.code, .int .i64 m.id, .slc none (List.take m.tok.length (List.drop 0 (by8 m.tok))), .slc (some 2) (List.take m.opts.length (List.drop 0 (ops m.opts))), .slc none (List.take m.body.length (List.drop 0 (by8 m.body)))] = m.cv := by
  rw [d8, d8, dO]; rfl
end
section
variable {X : Type}
theorem gt_app (P : List Int) (x : Int) (R : List Int) : gt (P ++ x :: R) P.length = x := by
  unfold gt; simp
theorem gt_app1 (P : List Int) (x y : Int) (R : List Int) : gt (P ++ x :: y :: R) (P.length + 1) = y := by
  unfold gt; simp
theorem rdNum_tell (P R : List Int) (n : Int) (h0 : 0 ≤ n) (h1 : n ≤ 65535) : rdNum (P ++ (tellN n).2 ++ R) P.length (tellN n).1 = some (n, P.length + (tellN n).2.length) := by
  unfold tellN
  by_cases h : n < 13
  · rw [if_pos h]
    unfold rdNum
    dsimp only
    rw [if_pos h]; rfl
  · rw [if_neg h]
    by_cases h' : n < 269
    · rw [if_pos h']
      unfold rdNum
      dsimp only
      rw [if_neg (by decide), if_pos rfl, if_pos (by simp)]
      have : gt (P ++ [n - 13] ++ R) P.length = n - 13 := by
        rw [List.append_assoc]; exact gt_app P _ R
      rw [this, show 13 + (n - 13) = n from by omega]; rfl
    · rw [if_neg h']
      unfold rdNum
      dsimp only
      rw [if_neg (by decide), if_neg (by decide), if_pos (by simp)]
      have e1 : gt (P ++ [(n - 269) / 256, (n - 269) % 256] ++ R) P.length = (n - 269) / 256 := by
        rw [List.append_assoc]; exact gt_app P _ _
      have e2 : gt (P ++ [(n - 269) / 256, (n - 269) % 256] ++ R) (P.length + 1) = (n - 269) % 256 := by
        rw [List.append_assoc]; exact gt_app1 P _ _ R
      rw [e1, e2, show 269 + (n - 269) / 256 * 256 + (n - 269) % 256 = n from by omega]; rfl
/-- Where an option's bytes stand. -/
def valAt (P : List Int) (last : Int) (o : Op) : Nat := P.length + 1 + (tellN (o.1 - last)).2.length + (tellN (o.2.length : Int)).2.length
theorem chunk_at (P : List Int) (last : Int) (o : Op) : valAt P last o + o.2.length = (P ++ chunk last o).length := by
  unfold valAt chunk
  simp only [List.length_append, List.length_singleton]
  omega
theorem hd_bnd (last : Int) (o : Op) (h : last ≤ o.1) : 0 ≤ hd last o ∧ hd last o < 239 ∧ hd last o / 16 = (tellN (o.1 - last)).1 ∧ hd last o % 16 = (tellN (o.2.length : Int)).1 ∧ (tellN (o.1 - last)).1 ≤ 14 ∧ (tellN (o.2.length : Int)).1 ≤ 14 := by
  have h1 := tell_bnd (o.1 - last) (by omega)
  have h2 := tell_bnd (o.2.length : Int) (by omega)
  unfold hd
  omega
theorem gt_hd (P : List Int) (last : Int) (o : Op) (R : List Int) : gt (P ++ chunk last o ++ R) P.length = hd last o := by
  unfold chunk
  rw [show P ++ ([hd last o] ++ (tellN (o.1 - last)).2 ++ (tellN (o.2.length : Int)).2 ++ o.2) ++ R = P ++ hd last o :: ((tellN (o.1 - last)).2 ++ (tellN (o.2.length : Int)).2 ++ o.2 ++ R) from by simp]
  exact gt_app P _ _
theorem rdO_enc (P R : List Int) (last : Int) (o : Op) (cnt : Nat) (h0 : 0 ≤ last) (h1 : last ≤ o.1) (h2 : o.1 ≤ 65535) (h3 : o.2.length ≤ 300) (hc : cnt < 24) :
    rdO (P ++ chunk last o ++ R) last cnt P.length = .inr (o.1, valAt P last o, (o.2.length : Int)) := by
  have hb := hd_bnd last o h1
  unfold rdO
  rw [gt_hd, hb.2.2.1, hb.2.2.2.1]
  rw [if_neg (by omega)]
  have e1 : P ++ chunk last o ++ R = (P ++ [hd last o]) ++ (tellN (o.1 - last)).2 ++ ((tellN (o.2.length : Int)).2 ++ o.2 ++ R) := by unfold chunk; simp
  have e2 : P ++ chunk last o ++ R = (P ++ [hd last o] ++ (tellN (o.1 - last)).2) ++ (tellN (o.2.length : Int)).2 ++ (o.2 ++ R) := by unfold chunk; simp
  have l1 : (P ++ [hd last o]).length = P.length + 1 := by simp
  have l2 : (P ++ [hd last o] ++ (tellN (o.1 - last)).2).length = P.length + 1 + (tellN (o.1 - last)).2.length := by simp; omega
  have n1 := rdNum_tell (P ++ [hd last o]) ((tellN (o.2.length : Int)).2 ++ o.2 ++ R) (o.1 - last) (by omega) (by omega)
  rw [← e1, l1] at n1
  have n2 := rdNum_tell (P ++ [hd last o] ++ (tellN (o.1 - last)).2) (o.2 ++ R) (o.2.length : Int) (by omega) (by omega)
  rw [← e2, l2] at n2
  rw [n1]
  dsimp only
  rw [n2]
  dsimp only
  have hlen : (P ++ chunk last o ++ R).length = valAt P last o + o.2.length + R.length := by rw [chunk_at, List.length_append]
  rw [if_neg (by omega), if_neg (by omega), if_neg (by omega), if_neg (by rw [hlen]; unfold valAt; omega)]
  rw [show last + (o.1 - last) = o.1 from by omega]; rfl
theorem val_take (P R : List Int) (last : Int) (o : Op) : ((P ++ chunk last o ++ R).drop (valAt P last o)).take o.2.length = o.2 := by
  have e : P ++ chunk last o ++ R = (P ++ [hd last o] ++ (tellN (o.1 - last)).2 ++ (tellN (o.2.length : Int)).2) ++ (o.2 ++ R) := by unfold chunk; simp
  have l : (P ++ [hd last o] ++ (tellN (o.1 - last)).2 ++ (tellN (o.2.length : Int)).2).length = valAt P last o := by unfold valAt; simp; omega
  rw [e, ← l, List.drop_left, List.take_left]
/-- Nothing stands behind the options, or a mark. -/
def Tl (T : List Int) : Prop := T = [] ∨ ∃ r, T = 255 :: r
theorem rd_enc : ∀ (kk : Nat) (B : List Op) (P : List Int) (last : Int) (acc : List Op) (T : List Int), B.length < kk → Okk last B → acc.length + B.length ≤ 24 → Tl T →
    rd kk (P ++ enc last B ++ T) last acc P.length = (0, (P ++ enc last B).length, acc ++ B)
  | 0, B, _, _, _, _, h, _, _, _ => absurd h (Nat.not_lt_zero _)
  | kk + 1, [], P, last, acc, T, h, _, hc, hT => by
    unfold rd
    rw [show enc last [] = [] from rfl, List.append_nil, List.append_nil]
    rw [if_neg]
    rintro ⟨h1, h2⟩
    rcases hT with rfl | ⟨r, rfl⟩
    · simp at h1
    · exact h2 (gt_app P 255 r)
  | kk + 1, o :: B, P, last, acc, T, h, hok, hc, hT => by
    obtain ⟨h0, h1, h2, h3, hok⟩ := hok
    simp only [List.length_cons] at h hc
    have e : P ++ enc last (o :: B) ++ T = P ++ chunk last o ++ (enc o.1 B ++ T) := by simp [enc]
    have e2 : P ++ enc last (o :: B) = P ++ chunk last o ++ enc o.1 B := by simp [enc]
    have hb := hd_bnd last o h1
    have cl := chunk_len last o h1
    unfold rd
    rw [e, gt_hd, if_pos ⟨by simp; omega, by omega⟩, rdO_enc P _ last o acc.length h0 h1 h2 h3 (by omega)]
    dsimp only
    rw [Int.toNat_natCast, val_take, chunk_at, ← List.append_assoc, e2]
    rw [rd_enc kk B (P ++ chunk last o) o.1 (acc ++ [o]) T (by omega) hok (by simp; omega) hT, List.append_assoc acc]; rfl
/-- Beginnings. -/
theorem gt_take {f : List Int} {c i : Nat} (h : i < c) : gt (f.take c) i = gt f i := by
  unfold gt
  rw [List.getElem?_take_of_lt h]
theorem rdNum_mono {f : List Int} {c a : Nat} {n : Int} {r : Int × Nat} (hc : c ≤ f.length) (h : rdNum (f.take c) a n = some r) : rdNum f a n = some r := by
  have hl : (f.take c).length = c := by rw [List.length_take]; omega
  unfold rdNum at h ⊢
  rw [hl] at h
  split at h
  · next h1 => rw [if_pos h1]; exact h
  · next h1 =>
    rw [if_neg h1]
    split at h
    · next h2 =>
      rw [if_pos h2]
      split at h
      · next h3 => rw [if_pos (by omega), ← gt_take h3]; exact h
      · cases h
    · next h2 =>
      rw [if_neg h2]
      split at h
      · next h3 => rw [if_pos (by omega), ← gt_take (f := f) (c := c) (i := a) (by omega), ← gt_take (f := f) (c := c) (i := a + 1) (by omega)]; exact h
      · cases h
theorem rdO_mono {f : List Int} {c cnt a : Nat} {last : Int} {r : Int × Nat × Int} (hc : c ≤ f.length) (ha : a < c) (h : rdO (f.take c) last cnt a = .inr r) : rdO f last cnt a = .inr r := by
  have hl : (f.take c).length = c := by rw [List.length_take]; omega
  unfold rdO at h ⊢
  rw [gt_take ha, hl] at h
  split at h
  · cases h
  next h1 =>
  rw [if_neg h1]
  split at h
  · cases h
  next d p e1 =>
  rw [rdNum_mono hc e1]
  dsimp only
  split at h
  · cases h
  next n q e2 =>
  rw [rdNum_mono hc e2]
  dsimp only
  split at h
  · cases h
  next h3 =>
  rw [if_neg h3]
  split at h
  · cases h
  next h4 =>
  rw [if_neg h4]
  split at h
  · cases h
  next h5 =>
  rw [if_neg h5]
  split at h
  · cases h
  next h6 =>
  rw [if_neg (by omega)]
  exact h
/-- What is read of a beginning: nothing, or the first options. -/
theorem rd_trunc : ∀ (kk : Nat) (B : List Op) (P : List Int) (last : Int) (acc : List Op) (T : List Int) (c : Nat), Byt (P ++ enc last B ++ T) → B.length < kk → Okk last B → acc.length + B.length ≤ 24 → Tl T → P.length ≤ c → c ≤ (P ++ enc last B ++ T).length →
    (rd kk ((P ++ enc last B ++ T).take c) last acc P.length).1 ≠ 0 ∨ (∃ j, j < B.length ∧ rd kk ((P ++ enc last B ++ T).take c) last acc P.length = (0, c, acc ++ B.take j)) ∨ ((P ++ enc last B).length ≤ c ∧ rd kk ((P ++ enc last B ++ T).take c) last acc P.length = (0, (P ++ enc last B).length, acc ++ B))
  | 0, B, _, _, _, _, _, _, h, _, _, _, _, _ => absurd h (Nat.not_lt_zero _)
  | kk + 1, [], P, last, acc, T, c, hby, h, _, hc, hT, hP, hcl => by
    refine .inr (.inr ?_)
    rw [show enc last [] = [] from rfl, List.append_nil] at hcl ⊢
    refine ⟨hP, ?_⟩
    unfold rd
    rw [if_neg, List.append_nil]
    rintro ⟨h1, h2⟩
    rw [List.length_take] at h1
    rw [gt_take (by omega)] at h2
    rcases hT with rfl | ⟨r, rfl⟩
    · rw [List.append_nil] at hcl; omega
    · exact h2 (gt_app P 255 r)
  | kk + 1, o :: B, P, last, acc, T, c, hby, h, hok, hc, hT, hP, hcl => by
    obtain ⟨h0, h1, h2, h3, hok⟩ := hok
    simp only [List.length_cons] at h hc
    have e : P ++ enc last (o :: B) ++ T = P ++ chunk last o ++ (enc o.1 B ++ T) := by simp [enc]
    have e2 : P ++ enc last (o :: B) = P ++ chunk last o ++ enc o.1 B := by simp [enc]
    have e3 : P ++ chunk last o ++ (enc o.1 B ++ T) = P ++ chunk last o ++ enc o.1 B ++ T := by simp
    have hl : ((P ++ enc last (o :: B) ++ T).take c).length = c := by rw [List.length_take]; omega
    rcases Nat.eq_or_lt_of_le hP with hPc | hPc
    · refine .inr (.inl ⟨0, by simp, ?_⟩)
      unfold rd
      rw [if_neg (by rw [hl]; omega), List.take_zero, List.append_nil, hPc]
    have hb := hd_bnd last o h1
    unfold rd
    rw [if_pos ⟨by rw [hl]; exact hPc, by rw [gt_take hPc, e, gt_hd]; omega⟩]
    cases hr : rdO ((P ++ enc last (o :: B) ++ T).take c) last acc.length P.length with
    | inl er =>
      refine .inl ?_
      obtain ⟨e', q⟩ := er
      have := rdO_err hr
      show e' ≠ 0
      omega
    | inr r =>
      have hm := rdO_mono hcl hPc hr
      have hq := hr
      rw [e, rdO_enc P _ last o acc.length h0 h1 h2 h3 (by omega)] at hm
      cases hm
      have bd := rdO_bnd (hby.take c) (by rw [hl]; exact hPc) h0 hq
      rw [hl] at bd
      dsimp only
      rw [Int.toNat_natCast]
      have hca := chunk_at P last o
      have hcc : (P ++ chunk last o).length ≤ c := by omega
      have hv : (((P ++ enc last (o :: B) ++ T).take c).drop (valAt P last o)).take o.2.length = o.2 := by
        rw [List.drop_take, List.take_take, Nat.min_eq_left (by omega), e, val_take]
      rw [hv, hca, e, e3]
      rw [e, e3] at hcl hby
      have ih := rd_trunc kk B (P ++ chunk last o) o.1 (acc ++ [o]) T c hby (by omega) hok (by simp; omega) hT hcc hcl
      rcases ih with ih | ⟨j, hj, ih⟩ | ⟨hle, ih⟩
      · exact .inl ih
      · refine .inr (.inl ⟨j + 1, by simp; omega, ?_⟩)
        rw [ih, List.take_succ_cons, List.append_assoc]; rfl
      · refine .inr (.inr ⟨by rw [e2]; exact hle, ?_⟩)
        rw [ih, e2, List.append_assoc acc]; rfl
/-- Bytes. -/
theorem tell_byt (n : Int) (h0 : 0 ≤ n) (h1 : n ≤ 65535) : Byt (tellN n).2 := by
  unfold tellN
  split
  · exact Byt.nil
  · split
    · exact Byt.cons (by omega) Byt.nil
    · exact Byt.cons (by omega) (Byt.cons (by omega) Byt.nil)
theorem enc_byt : ∀ (l : List Op) (last : Int), Okk last l → BytO l → Byt (enc last l)
  | [], _, _, _ => Byt.nil
  | o :: l, last, h, hb => by
    obtain ⟨h0, h1, h2, h3, hok⟩ := h
    have hh := hd_bnd last o h1
    unfold enc chunk
    refine Byt.app (Byt.app (Byt.app (Byt.app (Byt.cons (by omega) Byt.nil) (tell_byt _ (by omega) (by omega))) (tell_byt _ (by omega) (by omega))) (hb o List.mem_cons_self)) (enc_byt l o.1 hok fun p hp => hb p (List.mem_cons_of_mem _ hp))
theorem isort_byt {l : List Op} (h : BytO l) : BytO (isort l) := fun o ho => h o (isort_mem.1 ho)
end
section
variable {X : Type}
end
section
variable {X : Type}
theorem options_eq {k : Nat} (K : Nat × List CV → Option X) (l : List Op) (hk : 1000 < k) (hl : l.length ≤ 100) (hv : ∀ o ∈ l, o.2.length ≤ 100000) : f37 k K (ops l) = K (l.length, ops l) := by
  refine iterV_spec (T := f37_L1 (fun X => @f29 X k) k K) (fun i => (i, ops l, ((ops l).length : Int), (i : Int), ops (l.take i))) (fun i => K (l.length, ops l)) l.length (fun i rec h hr => ?_) (fun rec => ?_) k 0 (Nat.zero_le _) (by omega)
  · unfold f37_L1 f37_T1
    dsimp only
    refine (bifT (decide_eq_true (by rw [ops_length]; omega))).trans ?_
    refine (grdT (dec0 _)).trans ?_
    rw [Int.toNat_natCast]
    refine (bAt (ops_nth l i h) _).trans ?_
    refine (grdT rfl).trans ?_
    refine (grdT rfl).trans ?_
    refine (grdT rfl).trans ?_
    have := hv _ (List.getElem_mem h)
    refine (clone_eq _ _ (by rw [opvL, by8_length]; omega)).trans ?_
    rw [opvL, by8_length, d8, show List.take 1 (List.drop 0 [CV.agg [CV.int .i64 (CV.toI (CV.cellD 0 (opv l[i]))), CV.slc none (by8 l[i].2)]]) = ops [l[i]] from rfl]
    have lt : (l.take i).length = i := by rw [List.length_take]; omega
    have tI : List.take i (ops (l.take i)) = ops (l.take i) := by have := tO (l.take i); rwa [lt] at this
    rw [tI, ← ops_append, List.take_append_getElem h]
    refine (grdT (decide_eq_true (by rw [ops_length]; simp; omega))).trans ?_
    rw [wrap64_s (by omega)]
    exact hr
  · unfold f37_L1 f37_T1
    dsimp only
    refine (bifF (decide_eq_false (by rw [ops_length]; omega))).trans ?_
    rw [List.take_length, Nat.zero_add, tO]
def reply (m : Ms) (code id : Int) (o : List Op) (b : List Int) : Ms := bif m.kind == 0 then ⟨2, code, m.id, m.tok, o, b⟩ else ⟨1, code, id, m.tok, o, b⟩
abbrev OutP := Int × Int × Int × Nat × Nat × Nat × List CV × List CV × List CV
theorem reply_eq {k : Nat} (K : OutP → Option X) (m : Ms) (code id : Int) (o : List Op) (b : List Int) (hk : 1000 < k) (ht : m.tok.length ≤ 1000) (ho : o.length ≤ 100) (hv : ∀ p ∈ o, p.2.length ≤ 100000) (hb : b.length ≤ 100000) :
    f16 k K m.cv code id (ops o) (by8 b) = (fun r : Ms => K (r.kind, r.code, r.id, r.tok.length, r.opts.length, r.body.length, by8 r.tok, ops r.opts, by8 r.body)) (reply m code id o b) := by
  unfold f16 f16_A f16_T
  refine (grdT rfl).trans ?_
  refine (grdT rfl).trans ?_
  refine (grdT rfl).trans ?_
  refine (grdT rfl).trans ?_
  refine (grdT rfl).trans ?_
  refine (grdT rfl).trans ?_
  refine (grdT rfl).trans ?_
  rw [show CV.toL (CV.cellD 3 m.cv) = by8 m.tok from rfl, show CV.toI (CV.cellD 0 m.cv) = m.kind from rfl, show CV.toI (CV.cellD 2 m.cv) = m.id from rfl]
  refine (clone_eq _ _ (by rw [by8_length]; omega)).trans ?_
  refine (options_eq _ o hk ho hv).trans ?_
  refine (clone_eq _ _ (by rw [by8_length]; omega)).trans ?_
  unfold reply f16_J1
  rw [by8_length, by8_length, t8, t8]
  dsimp only
  rw [Nat.zero_add, tO]
  cases m.kind == 0 <;> rfl
abbrev OutQ := Int × Int × Int × List CV × List CV × List CV
theorem reply_sm (m : Ms) (code id : Int) (o : List Op) (b : List Int) (ht : m.tok.length ≤ 1000) (ho : o.length ≤ 100) (hv : ∀ p ∈ o, p.2.length ≤ 100000) (hb : b.length ≤ 100000) : Sm (reply m code id o b) := by
  unfold reply
  cases m.kind == 0 <;> exact ⟨by show m.tok.length ≤ _; omega, hb, by show o.length ≤ _; omega, hv⟩
def bareM (kind id : Int) : Ms := ⟨kind, 0, id, [], [], []⟩
theorem bareM_sm (kind id : Int) : Sm (bareM kind id) := ⟨by simp [bareM], by simp [bareM], by simp [bareM], fun o ho => by simp [bareM] at ho⟩
theorem ops_of (l : List (Int × List Int × Unit)) : ops (l.map fun x => (x.1, x.2.1)) = l.map fun x => .agg [.int .i64 x.1, .slc none (x.2.1.map fun y => .int .u8 y)] := by
  unfold ops opv by8
  rw [List.map_map]; rfl
end
section
variable {X : Type}
theorem msgW_err {m : Ms} (h : (msgW m).1 ≠ 0) : (msgW m).2 = [] := by
  unfold msgW at h ⊢
  split
  · rfl
  · split
    · rfl
    · next h1 h2 =>
      rw [if_neg h1, if_neg h2] at h
      cases hc : (optW m.opts).1 != 0 with
      | true => rfl
      | false => rw [hc] at h; exact absurd rfl h
theorem msgW_ok {m : Ms} (h : (msgW m).1 = 0) : ¬ Bad m ∧ ¬ Long m ∧ flt m.opts = 0 ∧ (msgW m).2 = head m ++ m.tok ++ enc 0 (isort m.opts) ++ tail m.body := by
  unfold msgW at h ⊢
  by_cases h1 : Bad m
  · rw [if_pos h1] at h; exact absurd h (by decide)
  rw [if_neg h1] at h ⊢
  by_cases h2 : Long m
  · rw [if_pos h2] at h; exact absurd h (by decide)
  rw [if_neg h2] at h ⊢
  cases hf : flt m.opts != 0 with
  | true =>
    have e : optW m.opts = (flt m.opts, []) := by unfold optW; rw [hf]; rfl
    rw [e] at h
    have h : (bif flt m.opts != 0 then (flt m.opts, []) else (0, head m ++ m.tok ++ [] ++ tail m.body)).1 = 0 := h
    rw [hf] at h
    have h : flt m.opts = 0 := h
    rw [h] at hf; cases hf
  | false =>
    have e : optW m.opts = (0, enc 0 (isort m.opts)) := by unfold optW; rw [hf]; rfl
    rw [e]
    exact ⟨h1, h2, by simpa using hf, rfl⟩
theorem tail_tl (b : List Int) : Tl (tail b) := by
  unfold tail
  split
  · exact .inl rfl
  · exact .inr ⟨b, rfl⟩
theorem tail_byt {b : List Int} (h : Byt b) : Byt (tail b) := by
  unfold tail
  split
  · exact Byt.nil
  · exact Byt.cons (by omega) h
theorem head_byt {m : Ms} (h : ¬ Bad m) (hl : ¬ Long m) : Byt (head m) := by
  unfold Bad at h
  unfold Long at hl
  exact Byt.cons (by omega) (Byt.cons (by omega) (Byt.cons (by omega) (Byt.cons (by omega) Byt.nil)))
theorem msgW_byt {m : Ms} (hm : BytM m) (h : (msgW m).1 = 0) : Byt (msgW m).2 := by
  obtain ⟨h1, h2, h3, h4⟩ := msgW_ok h
  rw [h4]
  exact ((head_byt h1 h2).app hm.1).app (enc_byt _ 0 (okk_isort h3) (isort_byt hm.2.2)) |>.app (tail_byt hm.2.1)
def sortM (m : Ms) : Ms := ⟨m.kind, m.code, m.id, m.tok, isort m.opts, m.body⟩
theorem bad_code0 {m : Ms} (h : ¬ Bad m) (hc : m.code = 0) : m.tok = [] ∧ m.opts = [] ∧ m.body = [] :=
  Classical.byContradiction fun e => h (.inr (.inr (.inr (.inr (.inr (.inr (.inr ⟨hc, e⟩)))))))
/-- A head, whatever follows it. -/
theorem head_no {m : Ms} (h : ¬ Bad m) (hl : ¬ Long m) (R : List Int) : ¬ NoHead (head m ++ R) ∧ tk (head m ++ R) = m.tok.length ∧ gt (head m ++ R) 0 / 16 % 4 = m.kind ∧ gt (head m ++ R) 1 = m.code ∧ gt (head m ++ R) 2 * 256 + gt (head m ++ R) 3 = m.id := by
  unfold Bad at h
  unfold Long at hl
  have g0 : gt (head m ++ R) 0 = 64 + 16 * m.kind + (m.tok.length : Int) := rfl
  have g1 : gt (head m ++ R) 1 = m.code := rfl
  have g2 : gt (head m ++ R) 2 = m.id / 256 := rfl
  have g3 : gt (head m ++ R) 3 = m.id % 256 := rfl
  unfold NoHead tk
  rw [g0, g1, g2, g3]
  have hhl : (head m ++ R).length = 4 + R.length := by rw [List.length_append]; rfl
  rw [hhl]
  refine ⟨by omega, by omega, by omega, rfl, by omega⟩
theorem used_of {m : Ms} (h : ¬ Bad m) : used m.code = true := by
  cases c : used m.code with
  | true => rfl
  | false => exact absurd (.inr (.inr (.inr (.inr (.inl c))))) h
theorem drop4 (m : Ms) (R : List Int) (n : Nat) : (head m ++ R).drop (4 + n) = R.drop n := by
  have : (head m).length = 4 := rfl
  rw [show 4 + n = (head m).length + n from by omega, List.drop_append, Nat.add_sub_cancel_left, List.drop_of_length_le (by omega), List.nil_append]
theorem back {k : Nat} {m : Ms} (hk : 1000000 < k) (hw : (msgW m).1 = 0) : msgR k (msgW m).2 = (0, sortM m) := by
  obtain ⟨h1, h2, h3, h4⟩ := msgW_ok hw
  have hop := flt_ok h3
  rw [h4]
  have e : head m ++ m.tok ++ enc 0 (isort m.opts) ++ tail m.body = head m ++ (m.tok ++ (enc 0 (isort m.opts) ++ tail m.body)) := by simp
  rw [e]
  obtain ⟨n1, n2, n3, n4, n5⟩ := head_no h1 h2 (m.tok ++ (enc 0 (isort m.opts) ++ tail m.body))
  have hbd : ¬ BadHead (head m ++ (m.tok ++ (enc 0 (isort m.opts) ++ tail m.body))) := by
    unfold BadHead
    rw [n2, n4, used_of h1]
    have hhl : (head m).length = 4 := rfl
    simp only [List.length_append, hhl]
    rintro (c | c | c | c)
    · unfold Long at h2; omega
    · cases c
    · obtain ⟨c0, c1⟩ := c
      obtain ⟨t0, o0, b0⟩ := bad_code0 h1 c0
      rw [t0, o0, b0] at c1
      exact c1 rfl
    · omega
  unfold msgR
  rw [if_neg n1, if_neg hbd, n2, drop4, List.drop_left]
  have rd1 := rd_enc k (isort m.opts) [] 0 [] (tail m.body) (by rw [isort_len]; omega) (okk_isort h3) (by rw [isort_len]; simp; omega) (tail_tl _)
  simp only [List.nil_append, List.length_nil] at rd1
  rw [rd1]
  dsimp only
  rw [if_neg (by simp), List.drop_left]
  have ht : tail m.body = [] ∧ m.body = [] ∨ tail m.body = 255 :: m.body ∧ m.body ≠ [] := by
    unfold tail
    by_cases hb : m.body = []
    · rw [if_pos hb]; exact .inl ⟨rfl, hb⟩
    · rw [if_neg hb]; exact .inr ⟨rfl, hb⟩
  have hdrop : (tail m.body).drop 1 = m.body := by
    rcases ht with ⟨e1, e2⟩ | ⟨e1, e2⟩ <;> rw [e1]
    · rw [e2]; rfl
    · rfl
  have hlen : (tail m.body).length ≠ 1 ∧ (tail m.body).length ≤ 1201 := by
    unfold Long at h2
    rcases ht with ⟨e1, e2⟩ | ⟨e1, e2⟩ <;> rw [e1]
    · simp
    · have := List.length_pos_iff.2 e2
      simp only [List.length_cons]
      omega
  rw [if_neg hlen.1, if_neg (by omega)]
  unfold msB sortM
  rw [n2, n3, n4, n5, hdrop, show (4 : Nat) = 4 + 0 from rfl, drop4, List.drop_zero, List.take_left]
/-- Beginnings of what is written. -/
theorem ends {k : Nat} {m : Ms} (hk : 1000000 < k) (hm : BytM m) (hw : (msgW m).1 = 0) (c : Nat) (hc : c ≤ (msgW m).2.length) :
    (∃ e, e ≠ 0 ∧ msgR k ((msgW m).2.take c) = (e, ms0)) ∨ ∃ n : Ms, msgR k ((msgW m).2.take c) = (0, n) ∧ n.kind = m.kind ∧ n.id = m.id ∧ n.tok = m.tok ∧ (∃ j, n.opts = (isort m.opts).take j) ∧ ∃ i, n.body = m.body.take i := by
  obtain ⟨h1, h2, h3, h4⟩ := msgW_ok hw
  have hop := flt_ok h3
  rw [h4] at hc ⊢
  have e : head m ++ m.tok ++ enc 0 (isort m.opts) ++ tail m.body = head m ++ (m.tok ++ (enc 0 (isort m.opts) ++ tail m.body)) := by simp
  rw [e] at hc ⊢
  have hhl : (head m).length = 4 := rfl
  by_cases hc4 : c < 4
  · exact .inl ⟨20, by decide, msgR_no (.inl (by rw [List.length_take]; omega))⟩
  have et : (head m ++ (m.tok ++ (enc 0 (isort m.opts) ++ tail m.body))).take c = head m ++ (m.tok ++ (enc 0 (isort m.opts) ++ tail m.body)).take (c - 4) := by
    rw [List.take_append, hhl, List.take_of_length_le (by omega)]
  rw [et]
  obtain ⟨n1, n2, n3, n4, n5⟩ := head_no h1 h2 ((m.tok ++ (enc 0 (isort m.opts) ++ tail m.body)).take (c - 4))
  by_cases hbd : BadHead (head m ++ (m.tok ++ (enc 0 (isort m.opts) ++ tail m.body)).take (c - 4))
  · exact .inl ⟨20, by decide, msgR_bad n1 hbd⟩
  have hbd' := hbd
  unfold BadHead at hbd'
  rw [n2, List.length_append, hhl, List.length_take] at hbd'
  simp only [List.length_append, hhl] at hc hbd'
  have ed : ((m.tok ++ (enc 0 (isort m.opts) ++ tail m.body)).take (c - 4)).drop m.tok.length = (enc 0 (isort m.opts) ++ tail m.body).take (c - 4 - m.tok.length) := by
    rw [List.drop_take, List.drop_left]
  have ett : ((m.tok ++ (enc 0 (isort m.opts) ++ tail m.body)).take (c - 4)).take m.tok.length = m.tok := by
    rw [List.take_take, Nat.min_eq_left (by omega), List.take_left]
  unfold msgR
  rw [if_neg n1, if_neg hbd, n2, drop4, ed]
  have tr := rd_trunc k (isort m.opts) [] 0 [] (tail m.body) (c - 4 - m.tok.length) ((Byt.nil.app (enc_byt _ 0 (okk_isort h3) (isort_byt hm.2.2))).app (tail_byt hm.2.1)) (by rw [isort_len]; omega) (okk_isort h3) (by rw [isort_len]; simp; omega) (tail_tl _) (by simp) (by simp only [List.nil_append, List.length_append]; omega)
  simp only [List.nil_append, List.length_nil] at tr
  have hmk : ∀ (os : List Op) (rest : List Int), msB (head m ++ (m.tok ++ (enc 0 (isort m.opts) ++ tail m.body)).take (c - 4)) os rest = ⟨m.kind, m.code, m.id, m.tok, os, rest.drop 1⟩ := fun os rest => by
    unfold msB
    rw [n2, n3, n4, n5, show (4 : Nat) = 4 + 0 from rfl, drop4, List.drop_zero, ett]
  rcases tr with tr | ⟨j, hj, tr⟩ | ⟨hle, tr⟩
  · rw [if_pos tr]
    exact .inl ⟨_, tr, rfl⟩
  · rw [tr]
    dsimp only
    have : ((enc 0 (isort m.opts) ++ tail m.body).take (c - 4 - m.tok.length)).drop (c - 4 - m.tok.length) = [] := List.drop_of_length_le (by rw [List.length_take]; omega)
    rw [this, if_neg (by simp), if_neg (by simp), if_neg (by simp), hmk]
    exact .inr ⟨_, rfl, rfl, rfl, rfl, ⟨j, rfl⟩, 0, rfl⟩
  · rw [tr]
    dsimp only
    have : ((enc 0 (isort m.opts) ++ tail m.body).take (c - 4 - m.tok.length)).drop (enc 0 (isort m.opts)).length = (tail m.body).take (c - 4 - m.tok.length - (enc 0 (isort m.opts)).length) := by
      rw [List.drop_take, List.drop_left]
    rw [this, if_neg (by simp)]
    split
    · exact .inl ⟨20, by decide, rfl⟩
    split
    · exact .inl ⟨2, by decide, rfl⟩
    rw [hmk]
    refine .inr ⟨_, rfl, rfl, rfl, rfl, ⟨(isort m.opts).length, (List.take_length).symm⟩, ?_⟩
    show ∃ i, ((tail m.body).take (c - 4 - m.tok.length - (enc 0 (isort m.opts)).length)).drop 1 = m.body.take i
    generalize c - 4 - m.tok.length - (enc 0 (isort m.opts)).length = q
    unfold tail
    split
    · exact ⟨0, by simp⟩
    · cases q with
      | zero => exact ⟨0, by simp⟩
      | succ q => exact ⟨q, by simp⟩
end
section
variable {X : Type}
theorem bareM_byt (kind id : Int) : BytM (bareM kind id) := ⟨Byt.nil, Byt.nil, fun o ho => by simp [bareM] at ho⟩
end
end Go.Proofs.YtfllanhepeginaaD
