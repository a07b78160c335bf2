/- A law's row: what came in, as closed values; what its answer says. -/
import Derived.Test.YtlaojkheenobaaaDoorTM
import Derived.ChangeArms
import Derived.DataReads
import Derived.WideShapes
namespace Go.Proofs.YtlaojkheenobaaaDoorS
open Go Go.RowKit
set_option linter.unusedVariables false
set_option linter.unusedSimpArgs false
/-- Cells that hold a closed value. -/
def CCells (w : World) (F : Nat → Prop) (c : CV) (cs : List Value) : Prop :=
  (c.isAgg = false ∧ ∃ v, cs = [v] ∧ CRel w F c v) ∨ (c.isAgg = true ∧ CRel w F c (.agg cs.toArray))
def Here (w : World) (k : Nat) : Prop := k < w.heap.size
/-- Whatever is read at a type is a closed value of a form (up to a depth of reading). -/
def RdC (P : Program) (n : Nat) (t : TypeId) {α : Type} (en : α → CV) (wf : α → Prop) : Prop :=
  ∀ (H : Type) (enc : TypeId × Value → H) (w : World) (fuel : Nat) (cs : List Value) (x : DataW H × List MemPlace), fuel ≤ n → DataW.trod enc P w 0 (fun _ => true) true fuel t cs = some x → ∃ a : α, CCells w (Here w) (en a) cs ∧ wf a
section
variable {P : Program} {n : Nat} {t e : TypeId} {α : Type}
theorem RdC.int {k : IntKind} (ht : P.underlying t = some (.int k)) : RdC P n t (fun x : Int => .int k x) (fun x => (Lit.int k x).wf = true) := by
  intro H enc w fuel cs x _ h
  obtain ⟨m, rfl, _, hw⟩ := DataW.trod_int ht h
  exact ⟨m, .inl ⟨rfl, _, rfl, .int _ _⟩, hw⟩
theorem RdC.bool (ht : P.underlying t = some .bool) : RdC P n t (fun b : Bool => .bool b) (fun _ => True) := by
  intro H enc w fuel cs x _ h
  obtain ⟨m, rfl, _⟩ := DataW.trod_bool ht h
  exact ⟨m, .inl ⟨rfl, _, rfl, .bool _⟩, trivial⟩
theorem RdC.string (ht : P.underlying t = some .string) : RdC P n t (fun s : ByteArray => .str s) (fun s => s.size ≤ maxLen) := by
  intro H enc w fuel cs x _ h
  obtain ⟨m, rfl, _, hw⟩ := DataW.trod_string ht h
  exact ⟨m, .inl ⟨rfl, _, rfl, .str _⟩, hw⟩
theorem RdC.iso {β : Type} {en : α → CV} {wf : α → Prop} (h : RdC P n t en wf) {en' : β → CV} {wf' : β → Prop} (q : ∀ a, wf a → ∃ b, en' b = en a ∧ wf' b) : RdC P n t en' wf' := by
  intro H enc w fuel cs x hf hx
  obtain ⟨a, h1, h2⟩ := h H enc w fuel cs x hf hx
  obtain ⟨b, hb, hw⟩ := q a h2
  exact ⟨b, by rw [hb]; exact h1, hw⟩
theorem RdC.mono {m : Nat} {en : α → CV} {wf : α → Prop} (h : RdC P m t en wf) (hnm : n ≤ m) : RdC P n t en wf := fun H enc w fuel cs x hf hx => h H enc w fuel cs x (Nat.le_trans hf hnm) hx
theorem listOf {p : Nat → α → Prop} : ∀ (n : Nat), (∀ i, i < n → ∃ a, p i a) → ∃ xs : List α, xs.length = n ∧ ∀ i a, xs[i]? = some a → p i a
  | 0, _ => ⟨[], rfl, fun i a h => by simp at h⟩
  | n + 1, h => by
    obtain ⟨xs, hl, hx⟩ := listOf n (fun i hi => h i (by omega))
    obtain ⟨a, ha⟩ := h n (by omega)
    refine ⟨xs ++ [a], by simp [hl], fun i b hb => ?_⟩
    rcases Nat.lt_or_ge i xs.length with hi | hi
    · rw [List.getElem?_append_left hi] at hb
      exact hx i b hb
    · rw [List.getElem?_append_right hi] at hb
      have : i - xs.length = 0 := by
        rcases Nat.eq_zero_or_pos (i - xs.length) with h0 | h0
        · exact h0
        · rw [List.getElem?_eq_none (by simp; omega)] at hb; cases hb
      rw [this] at hb
      simp at hb
      subst hb
      have : i = n := by omega
      subst this
      exact ha
/-- Elements are of one form. -/
def FormOf (sh : Option Nat) (c : CV) : Prop := match sh with
  | none => c.isAgg = false
  | some m => c.isAgg = true ∧ c.ncells = m
theorem cell_here {w : World} {b o : Nat} {v : Value} (h : w.cell? ⟨b, o, none⟩ = some v) : Here w b := by
  unfold World.cell? at h
  unfold Here
  rcases Nat.lt_or_ge b w.heap.size with hb | hb
  · exact hb
  · rw [Array.getElem?_eq_none hb] at h; cases h
theorem ncells_len {w : World} {F : Nat → Prop} {c : CV} {cs : List Value} (h : CRel w F c (.agg cs.toArray)) (ha : c.isAgg = true) : cs.length = c.ncells := by
  generalize hv : Value.agg cs.toArray = v at h
  cases h with
  | agg hl _ _ => cases hv; rw [CV.ncells, hl]
  | any => cases ha
  | _ => cases hv
theorem addr_add (a : Addr) (n m : Nat) : (a.add n).add m = a.add (n + m) := by
  unfold Addr.add
  by_cases h1 : n = 0
  · subst h1; simp
  · by_cases h2 : m = 0
    · subst h2; simp [h1]
    · simp [h1, h2]; omega
theorem RdC.slice {en : α → CV} {wf : α → Prop} (sh : Option Nat) (ht : P.underlying t = some (.slice e)) (hsz : P.cellsOf e = szOf sh) (h0 : 0 < szOf sh) (hform : ∀ a, FormOf sh (en a)) (h : RdC P n e en wf) :
    RdC P (n + 1) t (fun xs : List α => .slc sh (xs.map en)) (fun xs => xs.length ≤ maxLen ∧ ∀ x ∈ xs, wf x) := by
  intro H enc w fuel cs x hf hx
  rcases DataW.trod_slice ht hx with ⟨rfl, _⟩ | ⟨a, len, cap, elems, rest, m, rfl, rfl, _, _, hl, hm, hlen, hel, _, _⟩
  · exact ⟨[], .inl ⟨rfl, _, rfl, .slc0 _ _ _⟩, Nat.zero_le _, fun x hx => by simp at hx⟩
  · obtain ⟨xs, hxl, hxs⟩ := listOf (p := fun i a0 => wf a0 ∧ ∃ c, c.length = szOf sh ∧ CCells w (Here w) (en a0) c ∧ ∀ j u, c[j]? = some u → w.cell? (a.add (i * szOf sh + j)) = some u) len (fun i hi => by
      have key := hel i hi
      rw [List.getElem?_eq_getElem (by omega)] at key
      obtain ⟨c, h1, h2⟩ := Option.bind_eq_some_iff.1 key
      obtain ⟨a0, hk, hw⟩ := h H enc w m c _ (by omega) h2
      obtain ⟨_, hcl, hcell⟩ := World.cells?_some h1
      rw [hsz] at hcl hcell
      refine ⟨a0, hw, c, hcl, hk, fun j u hu => ?_⟩
      have hj : j < szOf sh := by rw [← hcl]; exact (List.getElem?_eq_some_iff.1 hu).1
      rw [← addr_add, hcell j hj, hu])
    have hrow : RowRel w (Here w) (Here w) sh (xs.map en) (.slice (some a) len cap) := by
      refine ⟨some a, cap, by simp [hxl], by simp [hxl]; omega, fun hpos => ?_⟩
      have hpos : 0 < xs.length := by simpa using hpos
      obtain ⟨_, c0, hc0, _, hcell0⟩ := hxs 0 _ (List.getElem?_eq_getElem hpos)
      have hc00 : c0[0]? = some c0[0] := List.getElem?_eq_getElem (by omega)
      have g0 := hcell0 0 _ hc00
      have hspot : a.spot = none := by
        have := World.cell?_spot g0
        simpa [Addr.add] using this
      obtain ⟨b, o, sp⟩ := a
      simp only at hspot
      subst hspot
      have hadd : ∀ k, Addr.add ⟨b, o, none⟩ k = ⟨b, o + k, none⟩ := fun k => by
        unfold Addr.add; split
        · next h => subst h; rfl
        · rfl
      refine ⟨b, o, rfl, cell_here (by rw [hadd] at g0; exact g0), fun i y hy => ?_⟩
      rw [List.getElem?_map, Option.map_eq_some_iff] at hy
      obtain ⟨a0, ha0, rfl⟩ := hy
      obtain ⟨_, c, hcl, hcc, hcell⟩ := hxs i a0 ha0
      have hfm := hform a0
      cases sh with
      | none =>
        rcases hcc with ⟨hag, v, rfl, hr⟩ | ⟨hag, _⟩
        · have := hcell 0 v rfl
          rw [hadd] at this
          exact ⟨v, this, hr, hag⟩
        · simp only [FormOf] at hfm; rw [hfm] at hag; cases hag
      | some m' =>
        simp only [FormOf] at hfm
        rcases hcc with ⟨hag, _⟩ | ⟨hag, hr⟩
        · rw [hfm.1] at hag; cases hag
        · refine ⟨c, hcl, fun j u hu => ?_, hr⟩
          have := hcell j u hu
          rw [hadd] at this
          rw [Nat.add_assoc]; exact this
    exact ⟨xs, .inl ⟨rfl, _, rfl, hrow.toC⟩, by omega, fun y hy => by
      obtain ⟨j, hj, rfl⟩ := List.mem_iff_getElem.1 hy
      exact (hxs j _ (List.getElem?_eq_getElem hj)).1⟩
/-- A struct's fields, by type and place. -/
def fieldsOf (P : Program) (t : TypeId) : Option (List (TypeId × Nat)) := match P.underlying t with
  | some (.struct fs) => some (fs.toList.map fun f => (f.type, f.offset))
  | _ => none
/-- Cells that hold leaves. -/
def Leaves (w : World) (cs : List CV) (vs : List Value) : Prop := cs.length = vs.length ∧ (∀ c ∈ cs, c.isAgg = false) ∧ ∀ (j : Nat) c v, cs[j]? = some c → vs[j]? = some v → CRel w (Here w) c v
def RdF (P : Program) (n : Nat) (fs : List (TypeId × Nat)) (off : Nat) {α : Type} (en : α → List CV) (wf : α → Prop) : Prop :=
  ∀ (H : Type) (enc : TypeId × Value → H) (w : World) (fuel : Nat) (cs : List Value), fuel ≤ n → cs.length = off + fs.length →
    (∀ f ∈ fs, ∃ y, DataW.trod enc P w 0 (fun _ => true) true fuel f.1 ((cs.drop f.2).take (P.cellsOf f.1)) = some y) → ∃ a : α, Leaves w (en a) (cs.drop off) ∧ wf a
theorem RdF.nil {off : Nat} : RdF P n [] off (fun _ : Unit => []) (fun _ => True) := by
  intro H enc w fuel cs hf hl hall
  have : cs.drop off = [] := List.drop_eq_nil_of_le (by simp at hl; omega)
  rw [this]
  exact ⟨(), ⟨rfl, fun c h => by simp at h, fun j c v h => by simp at h⟩, trivial⟩
theorem RdF.cons {β : Type} {off : Nat} {ea : α → CV} {eb : β → List CV} {wa : α → Prop} {wb : β → Prop} {fs : List (TypeId × Nat)} (h : RdC P n t ea wa) (hs : P.cellsOf t = 1) (hag : ∀ a, (ea a).isAgg = false) (k : RdF P n fs (off + 1) eb wb) :
    RdF P n ((t, off) :: fs) off (fun x : α × β => ea x.1 :: eb x.2) (fun x => wa x.1 ∧ wb x.2) := by
  intro H enc w fuel cs hf hl hall
  obtain ⟨y, hy⟩ := hall (t, off) (by simp)
  rw [hs] at hy
  obtain ⟨a, ha, hwa⟩ := h H enc w fuel _ y hf hy
  obtain ⟨b, hb, hwb⟩ := k H enc w fuel cs hf (by rw [hl, List.length_cons]; omega) (fun f hf => hall f (by simp [hf]))
  rcases ha with ⟨_, v, hv, hr⟩ | ⟨hag', _⟩
  · have hlt : off < cs.length := by rw [hl, List.length_cons]; omega
    have hd : cs.drop off = v :: cs.drop (off + 1) := by
      have hv' : (cs.drop off).take 1 = [v] := hv
      rw [List.drop_eq_getElem_cons hlt] at hv' ⊢
      rw [List.take_succ_cons, List.cons.injEq] at hv'
      rw [hv'.1]
    refine ⟨(a, b), ?_, hwa, hwb⟩
    rw [hd]
    refine ⟨by simp [hb.1], fun c hc => ?_, fun j c u hc hu => ?_⟩
    · rcases List.mem_cons.1 hc with rfl | hc
      · exact hag a
      · exact hb.2.1 c hc
    · cases j with
      | zero => simp at hc hu; subst hc hu; exact hr
      | succ j => exact hb.2.2 j c u (by simpa using hc) (by simpa using hu)
  · rw [hag a] at hag'; cases hag'
theorem RdC.struct {fs : List (TypeId × Nat)} {en : α → List CV} {wf : α → Prop} (ht : fieldsOf P t = some fs) (hs : P.cellsOf t = fs.length) (h : RdF P n fs 0 en wf) : RdC P (n + 1) t (fun a => .agg (en a)) wf := by
  intro H enc w fuel cs x hf hx
  unfold fieldsOf at ht
  split at ht
  · rename_i fs' hu
    cases ht
    obtain ⟨xs, m, rfl, _, hl, hlen, hall⟩ := DataW.trod_struct hu hx
    obtain ⟨a, ha, hw⟩ := h H enc w m cs (by omega) (by omega) (fun f hf => by
      obtain ⟨g, hg, rfl⟩ := List.mem_map.1 hf
      obtain ⟨i, hi, he⟩ := List.mem_iff_getElem.1 hg
      have hi' : fs'[i]? = some g := by rw [← Array.getElem?_toList, List.getElem?_eq_getElem hi, he]
      have := hall i g hi'
      rw [List.getElem?_eq_getElem (by rw [hlen]; simpa using hi)] at this
      exact ⟨_, this⟩)
    rw [List.drop_zero] at ha
    exact ⟨a, .inr ⟨rfl, .agg ha.1 ha.2.1 ha.2.2⟩, hw⟩
  · cases ht
/-- An argument that is a slice. -/
theorem cameSlice {H : Type} {enc : TypeId × Value → H} {W : World} {v : Value} {d : DataW H} {p : List MemPlace} {r : Reach} {b0 : Nat} {en : α → CV} {wf : α → Prop} {sh : Option Nat} {f : α → List CV} (hen : ∀ xs, en xs = .slc sh (f xs)) (ht : P.underlying t = some (.slice e)) (hv : Value.okWide P W r b0 t v)
    (h : ∀ n, RdC P n t en wf) (hd : DataW.Trod enc P W 0 (fun _ => true) true t v d p) : ∃ xs : α, VRel W (fun _ => .absent) (Here W) (fun _ => False) (.sl true sh (f xs)) v ∧ wf xs := by
  obtain ⟨a, len, cap, rfl⟩ := Go.WideShapes.okWide_slice ht hv
  obtain ⟨fuel, hf⟩ := hd
  obtain ⟨xs, hc, hw⟩ := h fuel _ _ _ _ _ _ (Nat.le_refl _) hf
  rcases hc with ⟨_, v, hv, hr⟩ | ⟨hag, _⟩
  · simp [Value.cells] at hv
    subst hv
    rw [hen] at hr
    exact ⟨xs, .sl (hr.row.mono (fun _ h => h) (fun _ h => .inl h) (fun _ _ => rfl) (fun _ _ => rfl)), hw⟩
  · rw [hen] at hag; cases hag
theorem cameInt {H : Type} {enc : TypeId × Value → H} {W : World} {v : Value} {d : DataW H} {p : List MemPlace} {r : Reach} {b0 : Nat} {k : IntKind} (ht : P.underlying t = some (.int k)) (hv : Value.okWide P W r b0 t v)
    (hd : DataW.Trod enc P W 0 (fun _ => true) true t v d p) : ∃ x : Int, VRel W (fun _ => .absent) (Here W) (fun _ => False) (.v (.int k x)) v ∧ (Lit.int k x).wf = true := by
  obtain ⟨m, rfl⟩ := Go.WideShapes.okWide_int ht hv
  obtain ⟨fuel, hf⟩ := hd
  obtain ⟨m', hc, _, hw⟩ := DataW.trod_int ht hf
  simp [Value.cells] at hc
  subst hc
  exact ⟨m, .v (.int _ _), hw⟩
theorem cameBool {H : Type} {enc : TypeId × Value → H} {W : World} {v : Value} {d : DataW H} {p : List MemPlace} {r : Reach} {b0 : Nat} (ht : P.underlying t = some .bool) (hv : Value.okWide P W r b0 t v)
    (hd : DataW.Trod enc P W 0 (fun _ => true) true t v d p) : ∃ x : Bool, VRel W (fun _ => .absent) (Here W) (fun _ => False) (.v (.bool x)) v ∧ True := by
  obtain ⟨m, rfl⟩ := Go.WideShapes.okWide_bool ht hv
  exact ⟨m, .v (.bool _), trivial⟩
theorem cameString {H : Type} {enc : TypeId × Value → H} {W : World} {v : Value} {d : DataW H} {p : List MemPlace} {r : Reach} {b0 : Nat} (ht : P.underlying t = some .string) (hv : Value.okWide P W r b0 t v)
    (hd : DataW.Trod enc P W 0 (fun _ => true) true t v d p) : ∃ x : ByteArray, VRel W (fun _ => .absent) (Here W) (fun _ => False) (.v (.str x)) v ∧ x.size ≤ maxLen := by
  obtain ⟨m, rfl⟩ := Go.WideShapes.okWide_string ht hv
  obtain ⟨fuel, hf⟩ := hd
  obtain ⟨m', hc, _, hw⟩ := DataW.trod_string ht hf
  simp [Value.cells] at hc
  subst hc
  exact ⟨m, .v (.str _), hw⟩
/-- A law that is true, as its row asks. -/
theorem law_calls {g : FuncId} {args : List AVal} (h : FnOk P g args [] ⟨.v (.bool true), []⟩) {W : World} (hG : GlobOk (fun _ => False) (Here W) (fun _ => False) W) {vs : List Value} (hv : VRelL W (fun _ => .absent) (Here W) (fun _ => False) args vs) :
    Calls P g vs.toArray W fun e W' => e = .returned (.bool true) ∧ Below W.heap.size W W' := by
  have hI : Inv ⟨W, fun _ => False, fun _ => False, Here W, fun _ => .absent, fun _ => .absent⟩ (fun _ => .absent) (Here W) ⟨args, []⟩ ⟨vs.toArray, []⟩ W :=
    { len := by simpa using hv.1
      tm := fun t => hv.tm t
      nd := fun nm n h => by simp at h
      dom := fun nm h => absurd rfl h
      uniq := List.Pairwise.nil
      sep := fun nm n nm' n' b k k' h => by simp at h
      own := fun nm n b k h => by simp at h
      fb := fun k hk => hk.elim id (fun h => h.elim)
      f0 := fun k hk => hk
      fin := fun k hk => .inl hk
      step := Stp.refl _ _
      obj := fun nm cs b k h => by simp at h
      rw_ := fun r fz sh xs h => by simp at h
      defers := rfl }
  refine (h.2.2 _ _ _ W vs rfl ⟨fun nm h => absurd rfl h, hG⟩ hI).mono fun e W' ⟨v, he, φ', F', hI'⟩ => ?_
  have := (hI'.tm 0).bool
  simp at this
  subst this
  refine ⟨he, ?_⟩
  have hs := hI'.step
  exact ⟨hs.os, hs.tape, hs.output, hs.size, fun k hk => hs.block k hk (fun h => h)⟩
end
end Go.Proofs.YtlaojkheenobaaaDoorS
