/- ShaPieces. -/
import Derived.Test.YtlaojkheenobaaaDoorW1
namespace Go.Proofs.YtlaojkheenobaaaDoorD
open Go Go.Proofs.YtlaojkheenobaaaDoorS Go.Proofs
set_option linter.unusedVariables false
set_option linter.unusedSimpArgs false
section
variable {X : Type}
def i64s (xs : List Int) : List CV := xs.map (CV.int .i64)
theorem i64s_at {xs : List Int} {i : Nat} (h : i < xs.length) : (i64s xs)[i]? = some (CV.int .i64 (xs.getD i 0)) := by
  unfold i64s
  rw [List.getElem?_map, List.getElem?_eq_getElem h, List.getD_eq_getElem?_getD, List.getElem?_eq_getElem h]; rfl
abbrev PieL (k : Nat) (K : Bool → Option X) := f6_L1 (fun X => @f9 X k) (fun X => @f13 X k) (fun X => @f14 X k) (fun X => @f16 X k) (fun X => @f15 X k) (fun X => @f22 X k) (fun X => @f17 X k) k K
abbrev PieT (k : Nat) (K : Bool → Option X) := f6_T1 (fun X => @f9 X k) (fun X => @f13 X k) (fun X => @f14 X k) (fun X => @f16 X k) (fun X => @f15 X k) (fun X => @f22 X k) (fun X => @f17 X k) k K
theorem one_sum {k : Nat} (hk : 5000 < k) (hk2 : k < 1073741824) (K : List CV → Option X) {p : List Int} (hp : Byt p) (hl : p.length ≤ 4000) : f15 k K (rows8 [p]) = K (by8 (dig p)) := by
  have h1 : ([p] : List (List Int)).flatten = p := by simp
  have := sums_eq (X := X) (k := k) (ps := [p]) (by omega) K (fun q hq => by rw [List.mem_singleton] at hq; rw [hq]; exact hp) (by show 1 < k; omega) (by rw [h1]; omega) hk2
  rw [h1] at this
  exact this
theorem pie_end {k : Nat} (K : Bool → Option X) (hk : 5000 < k) (hk2 : k < 1073741824) {b l : List Int} (hb : Byt b) (hbl : b.length ≤ 2000) (t : Nat) (ht : t ≤ b.length) (hl : l = b.drop t) {row : List CV} (hr : Hr (b.take t) row) (cs : List CV) (N : Nat) (rec) :
    PieT k K rec (by8 b, by8 l, cs, (N : Int), (N : Int), row) = K true := by
  have hll : l.length = b.length - t := by rw [hl, List.length_drop]
  have hlb : Byt l := by rw [hl]; exact hb.drop t
  have htl : (b.take t).length = t := by rw [List.length_take]; omega
  obtain ⟨r1, g1, q1⟩ := write_eq (k := k) (m := b.take t) (d := [1]) (by omega) (by show 1 < k; omega) (hb.take t) (.cons (by decide) .nil) hr (by rw [htl]; simp; omega)
  obtain ⟨r2, g2, q2⟩ := write_eq (k := k) (m := b.take t) (d := l) (by omega) (by omega) (hb.take t) hlb hr (by rw [htl]; omega)
  have hbb : b.take t ++ l = b := by rw [hl, List.take_append_drop]
  rw [hbb] at g2
  unfold PieT f6_T1
  refine (bifF (decide_eq_false (by omega : ¬ (N : Int) < (N : Int)))).trans ?_
  refine (clone_eq _ hr.len).trans ?_
  refine (q1 _ _).trans ?_
  refine (q2 _ _).trans ?_
  refine (sum_eq (by omega) _ hb g2 (by omega)).trans ?_
  refine (one_sum hk hk2 _ hb (by omega)).trans ?_
  have hdl := dig_length b
  generalize dig b = D at hdl ⊢
  simp only [nums_by8 hdl, Bool.and_self]
  refine (grdT rfl).trans ?_
  refine (bifT (by simp)).trans ?_
  refine (len_eq _ g2).trans ?_
  refine (bifT (by rw [by8_length]; simp)).trans ?_
  refine (len_eq _ g1).trans ?_
  have ew : IntKind.wrap .i64 (IntKind.wrap .i64 ((Nat.cast (by8 b).length : Int) - (Nat.cast (by8 l).length : Int)) + 1) = ((b.take t ++ [1]).length : Int) := by
    rw [by8_length, by8_length, List.length_append, htl, List.length_singleton, wrap64 (n := (b.length : Int) - (l.length : Int)) (by omega) (by omega), wrap64 (by omega) (by omega)]
    omega
  simp only [ew]
  simp
theorem pie_go {k : Nat} (K : Bool → Option X) (hk : 5000 < k) (hk2 : k < 1073741824) {b cs : List Int} (hb : Byt b) (hbl : b.length ≤ 2000) (hcl : cs.length ≤ 20) :
    ∀ (n i t : Nat) (l : List Int) (row : List CV) (j : Nat), cs.length - i ≤ n → i ≤ cs.length → n < j → t ≤ b.length → l = b.drop t → Hr (b.take t) row →
      iterV (PieL k K) j (by8 b, by8 l, i64s cs, (cs.length : Int), (i : Int), row) = K true := fun n => by
  have hs : ∀ (j : Nat) v, iterV (PieL k K) (j + 1) v = PieT k K (iterV (PieL k K) j) v := fun _ _ => rfl
  induction n with
  | zero =>
    intro i t l row j h1 h2 h3 ht hl h4
    obtain ⟨j, rfl⟩ : ∃ q, j = q + 1 := ⟨j - 1, by omega⟩
    have hi : i = cs.length := by omega
    subst hi
    exact (hs _ _).trans (pie_end K hk hk2 hb hbl t ht hl h4 _ _ _)
  | succ n ih =>
    intro i t l row j h1 h2 h3 ht hl h4
    rcases Nat.lt_or_ge i cs.length with hi | hi
    · obtain ⟨j, rfl⟩ : ∃ q, j = q + 1 := ⟨j - 1, by omega⟩
      refine (hs _ _).trans ?_
      have hll : l.length = b.length - t := by rw [hl, List.length_drop]
      have e12 : bop .and .i64 (cs.getD i 0) 4095 = cs.getD i 0 % 4096 := bop_mask64 (cs.getD i 0) 12 (by decide)
      obtain ⟨a, ha⟩ : ∃ a : Nat, cs.getD i 0 % 4096 = (a : Int) := ⟨(cs.getD i 0 % 4096).toNat, by omega⟩
      have ew : IntKind.wrap .i64 ((l.length : Int) + 1) = ((l.length + 1 : Nat) : Int) := wrap64_s (by omega)
      have et : Int.tmod (a : Int) ((l.length + 1 : Nat) : Int) = ((a % (l.length + 1) : Nat) : Int) := by rw [tmod_eq (by omega)]; omega
      obtain ⟨c, hc⟩ : ∃ c, c = a % (l.length + 1) := ⟨_, rfl⟩
      rw [← hc] at et
      have hcle : c ≤ l.length := by
        have : a % (l.length + 1) < l.length + 1 := Nat.mod_lt _ (by omega)
        omega
      have htl : (b.take t).length = t := by rw [List.length_take]; omega
      have hlb : Byt l := by rw [hl]; exact hb.drop t
      obtain ⟨row', g1, g2⟩ := write_eq (k := k) (m := b.take t) (d := l.take c) (by omega) (by rw [List.length_take]; omega) (hb.take t) (hlb.take c) h4 (by rw [htl, List.length_take]; omega)
      have htc : b.take t ++ l.take c = b.take (t + c) := by rw [hl, List.take_add]
      rw [htc] at g1
      have hdr : l.drop c = b.drop (t + c) := by rw [hl, List.drop_drop]
      have hf := ih (i + 1) (t + c) (l.drop c) row' j (by omega) (by omega) (by omega) (by omega) hdr g1
      generalize iterV (PieL k K) j = rec at hf ⊢
      have q1 : List.take (c - 0) (List.drop 0 (by8 l)) = by8 (l.take c) := by rw [List.drop_zero, Nat.sub_zero, by8_take]
      have q2 : List.take (l.length - c) (List.drop c (by8 l)) = by8 (l.drop c) := by
        rw [by8_drop, take_all _ _ (by rw [List.length_drop, by8_length]; omega)]
      have hdl : (l.drop c).length = l.length - c := List.length_drop
      have q3 : IntKind.wrap .i64 ((b.length : Int) - ((l.length - c : Nat) : Int)) = ((t + c : Nat) : Int) := by rw [wrap64 (by omega) (by omega)]; omega
      have q4 : List.take (t + c - 0) (List.drop 0 (by8 b)) = by8 (b.take (t + c)) := by rw [List.drop_zero, Nat.sub_zero, by8_take]
      unfold PieT f6_T1
      refine (bifT (decide_eq_true (by omega : (i : Int) < (cs.length : Int)))).trans ?_
      refine (grdT (decide_eq_true (by omega : (0 : Int) ≤ (i : Int)))).trans ?_
      refine (bAt (i64s_at hi) _).trans ?_
      refine (grdT (isI_int _ _)).trans ?_
      simp only [toI_int, e12, ha, by8_length, ew, et, toNat_cast, q1, q2, hdl, q3, q4]
      refine (grdT (bne_iff_ne.2 (by omega))).trans ?_
      refine (grdT (decide_eq_true (by omega))).trans ?_
      refine (grdT (decide_eq_true (by omega))).trans ?_
      refine (g2 _ _).trans ?_
      refine (grdT (decide_eq_true (by omega))).trans ?_
      refine (grdT (decide_eq_true (by omega))).trans ?_
      refine (grdT (decide_eq_true (by omega))).trans ?_
      refine (sum_eq (by omega) _ (hb.take _) g1 (by rw [List.length_take]; omega)).trans ?_
      refine (grdT (decide_eq_true (by omega))).trans ?_
      refine (grdT (decide_eq_true (by omega))).trans ?_
      refine (one_sum hk hk2 _ (hb.take _) (by rw [List.length_take]; omega)).trans ?_
      have hdg := dig_length (b.take (t + c))
      generalize dig (b.take (t + c)) = D at hdg ⊢
      simp only [nums_by8 hdg, Bool.and_self]
      refine (grdT rfl).trans ?_
      refine (bifF (by simp)).trans ?_
      rw [wrap64_s (by omega)]
      exact hf
    · exact ih i t l row j (by omega) h2 (by omega) ht hl h4
theorem pieces_law_eq {k : Nat} (K : Bool → Option X) (hk : 5000 < k) (hk2 : k < 1073741824) {b : List Int} (hb : Byt b) (cs : List Int) : f6 k K (by8 b) (i64s cs) = K true := by
  unfold f6 f6_A f6_T
  refine (alive_eq _ (by omega) hk2).trans ?_
  refine (bifF rfl).trans ?_
  have hcl : (i64s cs).length = cs.length := by simp [i64s]
  by_cases h1 : b.length ≤ 2000
  · refine (bifF (decide_eq_false (by rw [by8_length]; omega))).trans ?_
    by_cases h2 : cs.length ≤ 20
    · refine (bifF (decide_eq_false (by rw [hcl]; omega))).trans ?_
      refine (new_eq _).trans ?_
      rw [hcl]
      exact pie_go K hk hk2 hb h1 h2 20 0 0 b _ k (by omega) (by omega) (by omega) (by omega) (by simp) (by simpa using hr_new)
    · exact bifT (decide_eq_true (by rw [hcl]; omega))
  · exact bifT (decide_eq_true (by rw [by8_length]; omega))
theorem law_pieces (x0 : List Int) (w0 : x0.length ≤ maxLen ∧ ∀ y ∈ x0, (Lit.int .u8 y).wf = true) (x1 : List Int) (w1 : x1.length ≤ maxLen ∧ ∀ y ∈ x1, (Lit.int .i64 y).wf = true) : ∃ k, ∀ K : Bool → Option Out, f6 k K (x0.map fun y => CV.int .u8 y) (x1.map fun y => CV.int .i64 y) = K true :=
  ⟨100000, fun K => pieces_law_eq K (by omega) (by omega) (wfByt w0.2) x1⟩
end
end Go.Proofs.YtlaojkheenobaaaDoorD
