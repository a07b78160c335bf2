/- What holds of a state of the evaluator and of memory. -/
import Derived.Test.YtlaojkheenobaaaDoorSR
namespace Go.Proofs.YtlaojkheenobaaaDoorS
open Go Go.RowKit
set_option linter.unusedVariables false
set_option linter.unusedSimpArgs false
theorem nmEq_iff : ∀ {a b : Nm}, nmEq a b = true ↔ a = b
  | [], [] => by simp [nmEq]
  | [], _ :: _ => by simp [nmEq]
  | _ :: _, [] => by simp [nmEq]
  | a :: l, b :: m => by simp [nmEq, nmEq_iff (a := l) (b := m), Nat.beq_eq]
theorem nmEq_refl (a : Nm) : nmEq a a = true := nmEq_iff.2 rfl
theorem nmEq_ne {a b : Nm} (h : a ≠ b) : nmEq a b = false := by
  cases e : nmEq a b with
  | true => exact absurd (nmEq_iff.1 e) h
  | false => rfl
theorem find_mem {nm : Nm} {n : Node} : ∀ {l : Nodes}, find nm l = some n → (nm, n) ∈ l
  | [], h => by simp [find] at h
  | (m, k) :: l, h => by
    unfold find at h
    cases e : nmEq m nm with
    | true => rw [e] at h; simp at h; rw [← nmEq_iff.1 e, ← h]; exact List.mem_cons_self
    | false => rw [e] at h; exact List.mem_cons_of_mem _ (find_mem h)
theorem find_none {nm : Nm} : ∀ {l : Nodes}, find nm l = none → ∀ n, (nm, n) ∉ l
  | [], _, n => by simp
  | (m, k) :: l, h, n => by
    unfold find at h
    cases e : nmEq m nm with
    | true => rw [e] at h; simp at h
    | false =>
      rw [e] at h
      simp only [List.mem_cons, not_or]
      refine ⟨fun e2 => ?_, find_none h n⟩
      cases e2
      rw [nmEq_refl] at e
      cases e
def Node.own : Node → Bool
  | .row fz _ _ => !fz
  | .obj _ => true
  | .iter _ _ => true
  | .dead => false
/-- A block that may be written: cells, none of them shared with a text. -/
structure WrB (sh : Option Nat) (w : World) (b : Nat) : Prop where
  lt : b < w.heap.size
  at_ : ∀ o, o < bsize w b → w.frozen? ⟨b, o, none⟩ = false ∧ (w.cell? ⟨b, o, none⟩).isSome = true
  ord : ∀ c t lo hi, w.heap[b]? = some (.cells c t (lo, hi)) → lo ≤ hi
  one : ∀ o v, w.cell? ⟨b, o, none⟩ = some v → v.oneCell' = true
  mark : sh.isSome = true → w.frozen? ⟨b, bsize w b, none⟩ = false
def NRel (w : World) (φ : Nm → Loc) (F B : Nat → Prop) (nm : Nm) : Node → Prop
  | .row fz sh xs => 0 < szOf sh ∧ ∃ blk, φ nm = .at_ blk xs.length ∧ (blk = none → xs = []) ∧ ∀ b, blk = some b → WrB sh w b ∧ (fz = true → F b) ∧ xs.length * szOf sh ≤ bsize w b ∧ ∀ (i : Nat) x, xs[i]? = some x → ElAt w F sh x b (i * szOf sh)
  | .obj cs => ∃ b, φ nm = .at_ (some b) 0 ∧ WrB none w b ∧ cs.length ≤ bsize w b ∧ (∀ c ∈ cs, c.cellOk) ∧ ∀ (j : Nat) c, cs[j]? = some c → ∃ v, w.cell? ⟨b, j, none⟩ = some v ∧ VRel w φ F B c v
  | .iter t p => ∃ b, φ nm = .at_ (some b) 0 ∧ w.heap[b]? = some (.stringIter t p)
  | .dead => φ nm = .dead
/-- From w to w' only blocks of S were turned, and blocks were laid. -/
structure Stp (S : Nat → Prop) (w w' : World) : Prop where
  os : w'.os = w.os
  tape : w'.tape = w.tape
  output : w'.output = w.output
  size : w.heap.size ≤ w'.heap.size
  block : ∀ k, k < w.heap.size → ¬ S k → w'.heap[k]? = w.heap[k]?
  bs : ∀ k, k < w.heap.size → bsize w' k = bsize w k
theorem Stp.refl (S : Nat → Prop) (w : World) : Stp S w w := ⟨rfl, rfl, rfl, Nat.le_refl _, fun _ _ _ => rfl, fun _ _ => rfl⟩
theorem Stp.trans {S T : Nat → Prop} {a b c : World} (h : Stp S a b) (k : Stp T b c) (hT : ∀ i, T i → i < b.heap.size → S i ∨ a.heap.size ≤ i) : Stp S a c :=
  ⟨k.os.trans h.os, k.tape.trans h.tape, k.output.trans h.output, Nat.le_trans h.size k.size,
   fun i hi hn => (k.block i (Nat.lt_of_lt_of_le hi h.size) (fun ht => (hT i ht (Nat.lt_of_lt_of_le hi h.size)).elim hn (fun hl => by omega))).trans (h.block i hi hn),
   fun i hi => (k.bs i (Nat.lt_of_lt_of_le hi h.size)).trans (h.bs i hi)⟩
theorem bsize_of {w w' : World} {b : Nat} (h : w'.heap[b]? = w.heap[b]?) : bsize w' b = bsize w b := by unfold bsize; rw [h]
theorem Stp.alloc (w : World) (o : Obj) : Stp (fun _ => False) w (w.alloc o) :=
  ⟨rfl, rfl, rfl, by simp, fun k hk _ => Below.heap_alloc w o k hk, fun k hk => bsize_of (Below.heap_alloc w o k hk)⟩
theorem bsize_setCell (w : World) (p : Addr) (u : Value) (b : Nat) : bsize (w.setCell p u) b = bsize w b := by
  unfold bsize World.setCell
  simp only [Array.getElem?_modify]
  by_cases h : p.block = b
  · subst h
    rw [if_pos rfl]
    cases e : w.heap[p.block]? with
    | none => rfl
    | some x => cases x <;> simp; split <;> simp
  · rw [if_neg h]
theorem Stp.setCell (w : World) (p : Addr) (u : Value) : Stp (fun k => k = p.block) w (w.setCell p u) :=
  ⟨rfl, rfl, rfl, by simp [World.setCell], fun k _ hn => Below.heap_setCell w p u k hn, fun k _ => bsize_setCell w p u k⟩
theorem Stp.drawn (w : World) (n : Nat) : Stp (fun _ => False) w { w with drawn := n } := ⟨rfl, rfl, rfl, Nat.le_refl _, fun _ _ _ => rfl, fun _ _ => rfl⟩
/-- What does not change in a call. -/
structure Fr where
  w0 : World
  S0 : Nat → Prop
  B : Nat → Prop
  F0 : Nat → Prop
  φ0 : Nm → Loc
  ψ0 : Nat → Loc
structure Inv (fr : Fr) (φ : Nm → Loc) (F : Nat → Prop) (s : St) (a : Act) (w : World) : Prop where
  len : s.tmps.length = a.tmps.size
  tm : ∀ t, VRel w φ F fr.B (nth s.tmps t) (a.tmps.getD t undef)
  nd : ∀ nm n, (nm, n) ∈ s.nodes → NRel w φ F fr.B nm n
  dom : ∀ nm, φ nm ≠ .absent → ∃ n, (nm, n) ∈ s.nodes
  uniq : (s.nodes.map (·.1)).Nodup
  sep : ∀ nm n nm' n' b k k', (nm, n) ∈ s.nodes → (nm', n') ∈ s.nodes → n.own = true → n'.own = true → φ nm = .at_ (some b) k → φ nm' = .at_ (some b) k' → nm = nm'
  own : ∀ nm n b k, (nm, n) ∈ s.nodes → n.own = true → φ nm = .at_ (some b) k → ¬ F b ∧ ¬ fr.B b ∧ (fr.S0 b ∨ fr.w0.heap.size ≤ b)
  fb : ∀ k, F k ∨ fr.B k → k < w.heap.size
  f0 : ∀ k, fr.F0 k → F k
  fin : ∀ k, F k → fr.F0 k ∨ fr.S0 k ∨ fr.w0.heap.size ≤ k
  step : Stp fr.S0 fr.w0 w
  obj : ∀ nm cs b k, (nm, .obj cs) ∈ s.nodes → fr.φ0 nm = .at_ (some b) k → ∃ k', φ nm = .at_ (some b) k'
  rw_ : ∀ r fz sh xs, ([r], Node.row fz sh xs) ∈ s.nodes → 1000 ≤ r → r < 2000 → φ [r] = fr.ψ0 r
  defers : a.defers = []
/-- The package's tables lie where they are read, and nothing of theirs may be written. -/
def GlobOk (B F0 S0 : Nat → Prop) (w : World) : Prop := ∀ g n cs, globs g = some (n, cs) → (B g ∨ F0 g) ∧ ¬ S0 g ∧ g < w.heap.size ∧ ElAt w (fun _ => False) (some n) (.agg cs) g 0
/-- The names that come in lie under roots from 1000 on; the package's tables are there. -/
structure FrOk (fr : Fr) : Prop where
  nm : ∀ nm, fr.φ0 nm ≠ .absent → 1000 ≤ nm.getLastD 0 ∧ nm.getLastD 0 < 2000
  gl : GlobOk fr.B fr.F0 fr.S0 fr.w0
def Rel (fr : Fr) (s : St) (a : Act) (w : World) : Prop := ∃ φ F, Inv fr φ F s a w
section
variable {fr : Fr} {φ φ' : Nm → Loc} {F F' B : Nat → Prop} {s : St} {a : Act} {w w' : World}
theorem mem_uniq : ∀ {l : Nodes} {nm : Nm} {n n' : Node}, (l.map (·.1)).Nodup → (nm, n) ∈ l → (nm, n') ∈ l → n = n'
  | [], _, _, _, _, h, _ => by simp at h
  | (m, k) :: l, nm, n, n', hu, h, h' => by
    simp only [List.map_cons, List.nodup_cons] at hu
    simp only [List.mem_cons] at h h'
    rcases h with h | h
    · rcases h' with h' | h'
      · cases h; cases h'; rfl
      · cases h
        exact absurd (List.mem_map.2 ⟨(m, n'), h', rfl⟩) hu.1
    · rcases h' with h' | h'
      · cases h'
        exact absurd (List.mem_map.2 ⟨(m, n), h, rfl⟩) hu.1
      · exact mem_uniq hu.2 h h'
theorem mem_find : ∀ {l : Nodes} {nm : Nm} {n : Node}, (l.map (·.1)).Nodup → (nm, n) ∈ l → find nm l = some n := by
  intro l nm n hu h
  cases e : find nm l with
  | none => exact absurd h (find_none e n)
  | some k => rw [mem_uniq hu h (find_mem e)]
theorem WrB.same {sh : Option Nat} {b : Nat} (h : WrB sh w b) (hb : w'.heap[b]? = w.heap[b]?) : WrB sh w' b := by
  refine ⟨?_, fun o ho => ?_, fun c t lo hi e => h.ord c t lo hi (hb ▸ e), fun o v hv => h.one o v (by rw [← cell_of (a := ⟨b, o, none⟩) hb]; exact hv), fun hs => by
    have := h.mark hs
    rw [bsize_of hb]
    unfold World.frozen? at *
    rw [hb]
    exact this⟩
  · have h1 := h.1
    rcases Nat.lt_or_ge b w'.heap.size with hl | hl
    · exact hl
    · rw [Array.getElem?_eq_none hl, Array.getElem?_eq_getElem h1] at hb
      cases hb
  · rw [bsize_of hb] at ho
    have := h.2 o ho
    refine ⟨?_, ?_⟩
    · have h2 := this.1
      unfold World.frozen? at *
      rw [hb]
      exact h2
    · rw [cell_of (a := ⟨b, o, none⟩) hb]; exact this.2
/-- A node stays as it is where its block does. -/
theorem NRel.mono {nm : Nm} {n : Node} (h : NRel w φ F B nm n) (hK : Keeps F B w w') (hφ : Phi φ φ') (hn : φ' nm = φ nm) (hb : ∀ b k, φ nm = .at_ (some b) k → w'.heap[b]? = w.heap[b]?) (hF : ∀ k, F k → F' k) : NRel w' φ' F' B nm n := by
  cases n with
  | row fz sh xs =>
    obtain ⟨h0, blk, h1, h2, h3⟩ := h
    refine ⟨h0, blk, hn.trans h1, h2, fun b hbk => ?_⟩
    subst hbk
    obtain ⟨h4, h5, h6, h7⟩ := h3 b rfl
    have hs := hb b _ h1
    exact ⟨h4.same hs, fun hz => hF _ (h5 hz), by rw [bsize_of hs]; exact h6, fun i x hx => (h7 i x hx).mono hF hK.F hs⟩
  | obj cs =>
    obtain ⟨b, h1, h2, h3, ho, h4⟩ := h
    have hs := hb b _ h1
    refine ⟨b, hn.trans h1, h2.same hs, by rw [bsize_of hs]; exact h3, ho, fun j c hc => ?_⟩
    obtain ⟨v, hv, hr⟩ := h4 j c hc
    exact ⟨v, (cell_of (a := ⟨b, j, none⟩) hs).trans hv, hr.mono hK hφ hF (fun k hk => .inl hk)⟩
  | iter t p =>
    obtain ⟨b, h1, h2⟩ := h
    exact ⟨b, hn.trans h1, (hb b _ h1).trans h2⟩
  | dead => exact hn.trans h
theorem NRel.block {nm : Nm} {n : Node} {b k : Nat} (h : NRel w φ F B nm n) (hn : φ nm = .at_ (some b) k) : b < w.heap.size := by
  cases n with
  | row fz sh xs =>
    obtain ⟨h0, blk, h1, h2, h3⟩ := h
    rw [hn] at h1
    cases h1
    exact (h3 b rfl).1.1
  | obj cs =>
    obtain ⟨b', h1, h2, h3, h4⟩ := h
    rw [hn] at h1
    cases h1
    exact h2.1
  | iter t p =>
    obtain ⟨b', h1, h2⟩ := h
    rw [hn] at h1
    cases h1
    exact (Array.getElem?_eq_some_iff.1 h2).1
  | dead => rw [NRel, hn] at h; cases h
theorem Phi.refl (φ : Nm → Loc) : Phi φ φ := fun _ _ => .inl rfl
theorem nth_setn : ∀ (l : List AVal) (t u : Nat) (x : AVal), nth (setn l t x) u = if t = u ∧ t < l.length then x else nth l u
  | [], t, u, x => by simp [setn, nth]
  | y :: l, 0, 0, x => by simp [setn, nth]
  | y :: l, 0, u + 1, x => by simp [setn, nth]
  | y :: l, t + 1, 0, x => by simp [setn, nth]
  | y :: l, t + 1, u + 1, x => by simp [setn, nth, nth_setn l t u x]
theorem setn_length : ∀ (l : List AVal) (t : Nat) (x : AVal), (setn l t x).length = l.length
  | [], _, _ => rfl
  | _ :: _, 0, _ => rfl
  | _ :: l, t + 1, x => by simp [setn, setn_length l t x]
/-- A temporary is written. -/
theorem Inv.put (h : Inv fr φ F s a w) {x : AVal} {v : Value} (hv : VRel w φ F fr.B x v) (d : Option Tmp) : Inv fr φ F (s.put d x) (a.put d v) w := by
  cases d with
  | none => exact h
  | some d =>
    refine { h with len := ?_, tm := fun t => ?_, nd := h.nd, dom := h.dom, uniq := h.uniq, sep := h.sep, own := h.own, obj := h.obj, rw_ := h.rw_, defers := h.defers }
    · show (setn s.tmps d x).length = (a.tmps.setIfInBounds d v).size
      rw [setn_length, Array.size_setIfInBounds]; exact h.len
    · show VRel w φ F fr.B (nth (setn s.tmps d x) t) ((a.tmps.setIfInBounds d v).getD t undef)
      rw [nth_setn]
      have hsz := h.len
      by_cases hc : d = t ∧ d < s.tmps.length
      · obtain ⟨rfl, hd⟩ := hc
        rw [if_pos ⟨rfl, hd⟩]
        have hd' : d < a.tmps.size := by rw [← hsz]; exact hd
        rw [Array.getD_eq_getD_getElem?, Array.getElem?_setIfInBounds_self_of_lt hd']
        exact hv
      · rw [if_neg hc]
        have : (a.tmps.setIfInBounds d v).getD t undef = a.tmps.getD t undef := by
          rw [Array.getD_eq_getD_getElem?, Array.getD_eq_getD_getElem?]
          by_cases hdt : d = t
          · subst hdt
            have h1 : ¬ d < s.tmps.length := fun hl => hc ⟨rfl, hl⟩
            have h2 : a.tmps.size ≤ d := hsz ▸ Nat.le_of_not_lt h1
            rw [Array.getElem?_eq_none (by rw [Array.size_setIfInBounds]; exact h2), Array.getElem?_eq_none h2]
          · rw [Array.getElem?_setIfInBounds_ne hdt]
        rw [this]
        exact h.tm t
/-- The world is turned where no node of the state has its block. -/
theorem Inv.world (h : Inv fr φ F s a w) (hs : Stp (fun _ => False) w w') : Inv fr φ F s a w' := by
  have hb : ∀ k, k < w.heap.size → w'.heap[k]? = w.heap[k]? := fun k hk => hs.block k hk (fun h => h)
  have hK : Keeps F fr.B w w' := ⟨fun k hk => hb k (h.fb k (.inl hk)), fun k hk => hb k (h.fb k (.inr hk)), hs.bs⟩
  exact { h with
    tm := fun t => (h.tm t).mono hK (Phi.refl _) (fun _ hk => hk) (fun _ hk => .inl hk)
    nd := fun nm n hn => (h.nd nm n hn).mono hK (Phi.refl _) rfl (fun b k hk => hb b ((h.nd nm n hn).block hk)) (fun _ hk => hk)
    fb := fun k hk => Nat.lt_of_lt_of_le (h.fb k hk) hs.size
    step := h.step.trans hs (fun _ hf _ => hf.elim) }
end
end Go.Proofs.YtlaojkheenobaaaDoorS
