/- What the evaluator's values say of memory. -/
import Derived.Test.YtlaojkheenobaaaDoorSC
import Derived.Below
import Derived.Laws.NewBlocks
import Derived.Laws.World
namespace Go.Proofs.YtlaojkheenobaaaDoorS
open Go Go.RowKit
set_option linter.unusedVariables false
set_option linter.unusedSimpArgs false
/-- Closed data, as memory has it: rows lie in blocks of F. -/
inductive CRel (w : World) (F : Nat → Prop) : CV → Value → Prop
  | int (k : IntKind) (n : Int) : CRel w F (.int k n) (.int k n)
  | bool (b : Bool) : CRel w F (.bool b) (.bool b)
  | str (s : ByteArray) : CRel w F (.str s) (.string s)
  | nilp : CRel w F .nilp (.pointer none)
  | any (v : Value) (h : v.oneCell' = true) : CRel w F .any v
  | agg {cs : List CV} {vs : List Value} (hl : cs.length = vs.length) (ha : ∀ c ∈ cs, c.isAgg = false) (h : ∀ (j : Nat) c v, cs[j]? = some c → vs[j]? = some v → CRel w F c v) : CRel w F (.agg cs) (.agg vs.toArray)
  | slc0 (sh : Option Nat) (A : Option Addr) (c : Nat) : CRel w F (.slc sh []) (.slice A 0 c)
  | slcN {xs : List CV} {b o c : Nat} {us : Nat → Value} (hc : xs.length ≤ c) (hb : F b) (hcell : ∀ i, i < xs.length → w.cell? ⟨b, o + i, none⟩ = some (us i)) (ha : ∀ x ∈ xs, x.isAgg = false)
      (hr : ∀ (i : Nat) x, xs[i]? = some x → CRel w F x (us i)) : CRel w F (.slc none xs) (.slice (some ⟨b, o, none⟩) xs.length c)
  | slcS {n : Nat} {xs : List CV} {b o c : Nat} {us : Nat → List Value} (hc : xs.length ≤ c) (hb : F b) (hl : ∀ i, i < xs.length → (us i).length = n) (hcell : ∀ (i j : Nat) u, i < xs.length → (us i)[j]? = some u → w.cell? ⟨b, o + i * n + j, none⟩ = some u)
      (hr : ∀ (i : Nat) x, xs[i]? = some x → CRel w F x (.agg (us i).toArray)) : CRel w F (.slc (some n) xs) (.slice (some ⟨b, o, none⟩) xs.length c)
/-- An element of a row, at a place. -/
def ElAt (w : World) (F : Nat → Prop) (sh : Option Nat) (x : CV) (b o : Nat) : Prop :=
  match sh with
  | none => ∃ u, w.cell? ⟨b, o, none⟩ = some u ∧ CRel w F x u ∧ x.isAgg = false
  | some n => ∃ us : List Value, us.length = n ∧ (∀ (j : Nat) u, us[j]? = some u → w.cell? ⟨b, o + j, none⟩ = some u) ∧ CRel w F x (.agg us.toArray)
/-- A row that is read; it lies in a block of G. -/
def RowRel (w : World) (F G : Nat → Prop) (sh : Option Nat) (xs : List CV) (v : Value) : Prop :=
  ∃ A c, v = .slice A xs.length c ∧ xs.length ≤ c ∧ (0 < xs.length → ∃ b o, A = some ⟨b, o, none⟩ ∧ G b ∧ ∀ (i : Nat) x, xs[i]? = some x → ElAt w F sh x b (o + i * szOf sh))
theorem cell_of {w w' : World} {a : Addr} (h : w'.heap[a.block]? = w.heap[a.block]?) : w'.cell? a = w.cell? a := by
  unfold World.cell?
  rw [h]
theorem CRel.mono {w w' : World} {F F' : Nat → Prop} {c : CV} {v : Value} (h : CRel w F c v) (hF : ∀ k, F k → F' k) (hw : ∀ k, F k → w'.heap[k]? = w.heap[k]?) : CRel w' F' c v := by
  induction h with
  | int k n => exact .int k n
  | bool b => exact .bool b
  | str s => exact .str s
  | nilp => exact .nilp
  | any v h => exact .any v h
  | agg hl ha _ ih => exact .agg hl ha ih
  | slc0 sh A c => exact .slc0 sh A c
  | slcN hc hb hcell ha _ ih => exact .slcN hc (hF _ hb) (fun i hi => (cell_of (hw _ hb)).trans (hcell i hi)) ha ih
  | slcS hc hb hl hcell _ ih => exact .slcS hc (hF _ hb) hl (fun i j u hi hu => (cell_of (hw _ hb)).trans (hcell i j u hi hu)) ih
theorem ElAt.mono {w w' : World} {F F' : Nat → Prop} {sh : Option Nat} {x : CV} {b o : Nat} (h : ElAt w F sh x b o) (hF : ∀ k, F k → F' k) (hw : ∀ k, F k → w'.heap[k]? = w.heap[k]?) (hb : w'.heap[b]? = w.heap[b]?) : ElAt w' F' sh x b o := by
  unfold ElAt at *
  cases sh with
  | none => obtain ⟨u, h1, h2, h3⟩ := h; exact ⟨u, (cell_of hb).trans h1, h2.mono hF hw, h3⟩
  | some n => obtain ⟨us, h1, h2, h3⟩ := h; exact ⟨us, h1, fun j u hu => (cell_of hb).trans (h2 j u hu), h3.mono hF hw⟩
theorem RowRel.mono {w w' : World} {F F' G G' : Nat → Prop} {sh : Option Nat} {xs : List CV} {v : Value} (h : RowRel w F G sh xs v) (hF : ∀ k, F k → F' k) (hG : ∀ k, G k → G' k) (hw : ∀ k, F k → w'.heap[k]? = w.heap[k]?) (hw' : ∀ k, G k → w'.heap[k]? = w.heap[k]?) : RowRel w' F' G' sh xs v := by
  obtain ⟨A, c, rfl, hc, h⟩ := h
  refine ⟨A, c, rfl, hc, fun h0 => ?_⟩
  obtain ⟨b, o, rfl, hb, he⟩ := h h0
  exact ⟨b, o, rfl, hG _ hb, fun i x hx => (he i x hx).mono hF hw (hw' _ hb)⟩
theorem RowRel.toC {w : World} {F : Nat → Prop} {sh : Option Nat} {xs : List CV} {v : Value} (h : RowRel w F F sh xs v) : CRel w F (.slc sh xs) v := by
  obtain ⟨A, c, rfl, hc, h⟩ := h
  rcases Nat.eq_zero_or_pos xs.length with h0 | h0
  · have : xs = [] := List.eq_nil_of_length_eq_zero h0
    subst this
    exact .slc0 _ _ _
  obtain ⟨b, o, rfl, hb, he⟩ := h h0
  cases sh with
  | none =>
    have key : ∀ i, ∃ u, i < xs.length → ∀ x, xs[i]? = some x → w.cell? ⟨b, o + i, none⟩ = some u ∧ CRel w F x u ∧ x.isAgg = false := fun i => by
      rcases Nat.lt_or_ge i xs.length with hi | hi
      · obtain ⟨u, h1, h2, h3⟩ := he i xs[i] (List.getElem?_eq_getElem hi)
        refine ⟨u, fun _ x hx => ?_⟩
        rw [List.getElem?_eq_getElem hi] at hx
        cases hx
        rw [szOf, Nat.mul_one] at h1
        exact ⟨h1, h2, h3⟩
      · exact ⟨.nilIface, fun h => absurd h (by omega)⟩
    obtain ⟨us, hus⟩ := Classical.axiomOfChoice key
    refine .slcN (us := us) hc hb (fun i hi => (hus i hi _ (List.getElem?_eq_getElem hi)).1) (fun x hx => ?_) (fun i x hx => ?_)
    · obtain ⟨i, hi, rfl⟩ := List.mem_iff_getElem.1 hx
      exact (hus i hi _ (List.getElem?_eq_getElem hi)).2.2
    · have hi := (List.getElem?_eq_some_iff.1 hx).1
      exact (hus i hi x hx).2.1
  | some n =>
    have key : ∀ i, ∃ us : List Value, i < xs.length → ∀ x, xs[i]? = some x → us.length = n ∧ (∀ (j : Nat) u, us[j]? = some u → w.cell? ⟨b, o + i * n + j, none⟩ = some u) ∧ CRel w F x (.agg us.toArray) := fun i => by
      rcases Nat.lt_or_ge i xs.length with hi | hi
      · obtain ⟨us, h1, h2, h3⟩ := he i xs[i] (List.getElem?_eq_getElem hi)
        refine ⟨us, fun _ x hx => ?_⟩
        rw [List.getElem?_eq_getElem hi] at hx
        cases hx
        exact ⟨h1, h2, h3⟩
      · exact ⟨[], fun h => absurd h (by omega)⟩
    obtain ⟨us, hus⟩ := Classical.axiomOfChoice key
    refine .slcS (us := us) hc hb (fun i hi => (hus i hi _ (List.getElem?_eq_getElem hi)).1) (fun i j u hi hu => (hus i hi _ (List.getElem?_eq_getElem hi)).2.1 j u hu) (fun i x hx => ?_)
    have hi := (List.getElem?_eq_some_iff.1 hx).1
    exact (hus i hi x hx).2.2
theorem CRel.row {w : World} {F : Nat → Prop} {sh : Option Nat} {xs : List CV} {v : Value} (h : CRel w F (.slc sh xs) v) : RowRel w F F sh xs v := by
  cases h with
  | slc0 _ A c => exact ⟨A, c, rfl, Nat.zero_le _, fun h => absurd h (Nat.lt_irrefl _)⟩
  | slcN hc hb hcell ha hr => 
    refine ⟨_, _, rfl, hc, fun _ => ⟨_, _, rfl, hb, fun i x hx => ?_⟩⟩
    have hi := (List.getElem?_eq_some_iff.1 hx).1
    refine ⟨_, ?_, hr i x hx, ha x (List.mem_of_getElem? hx)⟩
    rw [szOf, Nat.mul_one]
    exact hcell i hi
  | slcS hc hb hl hcell hr =>
    refine ⟨_, _, rfl, hc, fun _ => ⟨_, _, rfl, hb, fun i x hx => ?_⟩⟩
    have hi := (List.getElem?_eq_some_iff.1 hx).1
    exact ⟨_, hl i hi, fun j u hu => hcell i j u hi hu, hr i x hx⟩
/-- Where the block of a name lies. -/
inductive Loc where
  | absent
  | dead
  | at_ (b : Option Nat) (n : Nat)
def bsize (w : World) (b : Nat) : Nat := match w.heap[b]? with
  | some (.cells c _ _) => c.size
  | _ => 0
/-- A row that the call may write, as its slice has it. -/
def OslRel (w : World) (blk : Option Nat) (n : Nat) (sh : Option Nat) (off len : Nat) (v : Value) : Prop :=
  (∃ A, v = .slice A 0 0 ∧ len = 0 ∧ n ≤ off) ∨
  (∃ b cap, blk = some b ∧ v = .slice (some ⟨b, off * szOf sh, none⟩) len cap ∧ off + len ≤ n ∧ n ≤ off + cap ∧ (off + cap) * szOf sh ≤ bsize w b ∧ sh ≠ some 0) ∨
  (sh = some 0 ∧ ∃ A cap, v = .slice A len cap ∧ off + len ≤ n ∧ len ≤ cap ∧ (0 < cap → ∃ b, blk = some b ∧ A = some ⟨b, off, none⟩))
/-- What may lie in one cell. -/
def AVal.cellOk : AVal → Prop
  | .v x => x.isAgg = false
  | .agg _ => False
  | .tup _ => False
  | _ => True
inductive VRel (w : World) (φ : Nm → Loc) (F B : Nat → Prop) : AVal → Value → Prop
  | v {c v} (h : CRel w F c v) : VRel w φ F B (.v c) v
  | sl {p sh xs v} (h : RowRel w F (fun k => F k ∨ p = false ∧ B k) sh xs v) : VRel w φ F B (.sl p sh xs) v
  | nil0 {sh} (A : Option Addr) : VRel w φ F B (.nil0 sh) (.slice A 0 0)
  | oslD {nm sh off len} (h : φ nm = .dead) (A : Option Addr) (n c : Nat) : VRel w φ F B (.osl nm sh off len) (.slice A n c)
  | osl {nm sh off len blk n v} (h : φ nm = .at_ blk n) (h' : OslRel w blk n sh off len v) : VRel w φ F B (.osl nm sh off len) v
  | ptrD {nm sz i j} (h : φ nm = .dead) (A : Addr) : VRel w φ F B (.ptr nm sz i j) (.pointer (some A))
  | ptr {nm sz i j b n} (h : φ nm = .at_ (some b) n) : VRel w φ F B (.ptr nm sz i j) (.pointer (some ⟨b, i * sz + j, none⟩))
  | bptr {sh x j b o} (hb : F b ∨ B b) (h : ElAt w F sh x b o) : VRel w φ F B (.bptr sh x j) (.pointer (some ⟨b, o + j, none⟩))
  | agg {cs : List AVal} {vs : List Value} (hl : cs.length = vs.length) (ho : ∀ c ∈ cs, c.cellOk) (h : ∀ (j : Nat) c v, cs[j]? = some c → vs[j]? = some v → VRel w φ F B c v) : VRel w φ F B (.agg cs) (.agg vs.toArray)
  | tup {cs : List AVal} {vs : List Value} (hl : cs.length = vs.length) (h : ∀ (j : Nat) c v, cs[j]? = some c → vs[j]? = some v → VRel w φ F B c v) : VRel w φ F B (.tup cs) (.tuple vs.toArray)
  | fn {g} {cs : List AVal} {vs : List Value} (hl : cs.length = vs.length) (h : ∀ (j : Nat) c v, cs[j]? = some c → vs[j]? = some v → VRel w φ F B c v) : VRel w φ F B (.fn g cs) (.func (.func g) #[] vs.toArray)
  | undef (v : Value) : VRel w φ F B .undef v
/-- The world is turned where nothing is read, and no block changes its size. -/
structure Keeps (F B : Nat → Prop) (w w' : World) : Prop where
  F : ∀ k, F k → w'.heap[k]? = w.heap[k]?
  B : ∀ k, B k → w'.heap[k]? = w.heap[k]?
  size : ∀ b, b < w.heap.size → bsize w' b = bsize w b
theorem bsize_lt {w : World} {b : Nat} (h : 0 < bsize w b) : b < w.heap.size := by
  unfold bsize at h
  rcases Nat.lt_or_ge b w.heap.size with hb | hb
  · exact hb
  · rw [Array.getElem?_eq_none hb] at h
    exact absurd h (Nat.lt_irrefl _)
theorem bsize_le {w w' : World} (h : ∀ b, b < w.heap.size → bsize w' b = bsize w b) (b : Nat) : bsize w b ≤ bsize w' b := by
  rcases Nat.lt_or_ge b w.heap.size with hb | hb
  · rw [h b hb]; exact Nat.le_refl _
  · unfold bsize
    rw [Array.getElem?_eq_none hb]
    exact Nat.zero_le _
/-- How names may change. -/
def Phi (φ φ' : Nm → Loc) : Prop := ∀ nm, φ nm ≠ .absent → φ' nm = φ nm ∨ φ' nm = .dead
theorem OslRel.slice {w blk n sh off len v} (h : OslRel w blk n sh off len v) : ∃ A m c, v = .slice A m c := by
  rcases h with ⟨A, rfl, _⟩ | ⟨b, cap, _, rfl, _⟩ | ⟨_, A, cap, rfl, _⟩
  · exact ⟨_, _, _, rfl⟩
  · exact ⟨_, _, _, rfl⟩
  · exact ⟨_, _, _, rfl⟩
theorem VRel.mono {w w' : World} {φ φ' : Nm → Loc} {F B F' B' : Nat → Prop} {a : AVal} {v : Value} (h : VRel w φ F B a v) (hK : Keeps F B w w') (hφ : Phi φ φ') (hF : ∀ k, F k → F' k) (hB : ∀ k, B k → B' k ∨ F' k) : VRel w' φ' F' B' a v := by
  induction h with
  | v h => exact .v (h.mono hF hK.F)
  | @sl p sh xs v h =>
    refine .sl (h.mono hF (fun k hk => ?_) hK.F (fun k hk => ?_))
    · rcases hk with hk | ⟨hp, hk⟩
      · exact .inl (hF k hk)
      · rcases hB k hk with h1 | h1
        · exact .inr ⟨hp, h1⟩
        · exact .inl h1
    · rcases hk with hk | ⟨_, hk⟩
      · exact hK.F k hk
      · exact hK.B k hk
  | nil0 A => exact .nil0 A
  | oslD h A n c =>
    refine .oslD ?_ A n c
    rcases hφ _ (by rw [h]; simp) with h1 | h1
    · rw [h1, h]
    · exact h1
  | osl h h' =>
    rcases hφ _ (by rw [h]; simp) with h1 | h1
    · refine .osl (h1.trans h) ?_
      rcases h' with h' | ⟨b, cap, h2, h3, h4, h5, h6, h7⟩ | h'
      · exact .inl h'
      · exact .inr (.inl ⟨b, cap, h2, h3, h4, h5, Nat.le_trans h6 (bsize_le hK.size b), h7⟩)
      · exact .inr (.inr h')
    · obtain ⟨A, m, c, rfl⟩ := h'.slice
      exact .oslD h1 A m c
  | ptrD h A =>
    refine .ptrD ?_ A
    rcases hφ _ (by rw [h]; simp) with h1 | h1
    · rw [h1, h]
    · exact h1
  | ptr h =>
    rcases hφ _ (by rw [h]; simp) with h1 | h1
    · exact .ptr (h1.trans h)
    · exact .ptrD h1 _
  | bptr hb h =>
    refine .bptr ?_ (h.mono hF hK.F ?_)
    · rcases hb with hb | hb
      · exact .inl (hF _ hb)
      · exact (hB _ hb).symm
    · rcases hb with hb | hb
      · exact hK.F _ hb
      · exact hK.B _ hb
  | agg hl ho _ ih => exact .agg hl ho ih
  | tup hl _ ih => exact .tup hl ih
  | fn hl _ ih => exact .fn hl ih
  | undef v => exact .undef v
end Go.Proofs.YtlaojkheenobaaaDoorS
