/- Rows: literals, made ones. -/
import Derived.Test.YtlaojkheenobaaaDoorSX
import Derived.Great.BuildSlice
import Derived.Deep.AppendSrc
import Derived.Deep.Upon
namespace Go.Proofs.YtlaojkheenobaaaDoorS
open Go Go.RowKit
set_option linter.unusedVariables false
set_option linter.unusedSimpArgs false
/-- The cells of an element. -/
def ERow (w : World) (F : Nat → Prop) (sh : Option Nat) (x : CV) (us : List Value) : Prop :=
  us.length = szOf sh ∧ match sh with
    | none => x.isAgg = false ∧ ∀ u, us[0]? = some u → CRel w F x u
    | some n => CRel w F x (.agg us.toArray)
/-- The cells of a row. -/
def Rows (w : World) (F : Nat → Prop) (sh : Option Nat) (xs : List CV) (cs : List Value) : Prop :=
  cs.length = xs.length * szOf sh ∧ ∀ (i : Nat) x, xs[i]? = some x → ∃ us, ERow w F sh x us ∧ ∀ (j : Nat) u, us[j]? = some u → cs[i * szOf sh + j]? = some u
section
variable {X : Type} {P : Program} {T : Tab} {fr : Fr} {φ φ' : Nm → Loc} {F F' B : Nat → Prop} {s : St} {a : Act} {w w' : World} {out : X}
theorem ERow.mono {sh : Option Nat} {x : CV} {us : List Value} (h : ERow w F sh x us) (hF : ∀ k, F k → F' k) (hw : ∀ k, F k → w'.heap[k]? = w.heap[k]?) : ERow w' F' sh x us := by
  refine ⟨h.1, ?_⟩
  have h2 := h.2
  cases sh with
  | none => exact ⟨h2.1, fun u hu => (h2.2 u hu).mono hF hw⟩
  | some n => exact h2.mono hF hw
theorem Rows.mono {sh : Option Nat} {xs : List CV} {cs : List Value} (h : Rows w F sh xs cs) (hF : ∀ k, F k → F' k) (hw : ∀ k, F k → w'.heap[k]? = w.heap[k]?) : Rows w' F' sh xs cs :=
  ⟨h.1, fun i x hx => by obtain ⟨us, h1, h2⟩ := h.2 i x hx; exact ⟨us, h1.mono hF hw, h2⟩⟩
theorem ERow.at {sh : Option Nat} {x : CV} {us : List Value} (h : ERow w F sh x us) (h0 : 0 < szOf sh) {b o : Nat} (hc : ∀ (j : Nat) u, us[j]? = some u → w.cell? ⟨b, o + j, none⟩ = some u) : ElAt w F sh x b o := by
  have h1 := h.1
  have h2 := h.2
  cases sh with
  | none =>
    simp only [szOf] at h1
    have hu : us[0]? = some us[0] := List.getElem?_eq_getElem (by omega)
    exact ⟨us[0], hc 0 _ hu, h2.2 _ hu, h2.1⟩
  | some n => exact ⟨us, h1, hc, h2⟩
theorem ElAt.row {sh : Option Nat} {x : CV} {b o : Nat} (h : ElAt w F sh x b o) : ∃ us, ERow w F sh x us ∧ ∀ (j : Nat) u, us[j]? = some u → w.cell? ⟨b, o + j, none⟩ = some u := by
  cases sh with
  | none =>
    obtain ⟨u, h1, h2, h3⟩ := h
    refine ⟨[u], ⟨rfl, h3, fun u' hu => by simp at hu; rw [← hu]; exact h2⟩, fun j u' hu => ?_⟩
    cases j with
    | zero => simp at hu; rw [← hu]; exact h1
    | succ j => simp at hu
  | some n => obtain ⟨us, h1, h2, h3⟩ := h; exact ⟨us, ⟨h1, h3⟩, h2⟩
theorem ERow.one {sh : Option Nat} {x : CV} {us : List Value} (h : ERow w F sh x us) : ∀ u ∈ us, u.oneCell' = true := by
  intro u hu
  obtain ⟨q, hq, rfl⟩ := List.mem_iff_getElem.1 hu
  have h1 := h.1
  have h2 := h.2
  cases sh with
  | none =>
    simp only [szOf] at h1
    have : q = 0 := by omega
    subst this
    exact ((h2.2 _ (List.getElem?_eq_getElem hq)).notAgg h2.1).2
  | some n =>
    obtain ⟨cs, hx⟩ : ∃ cs, x = .agg cs := by
      generalize hA : Value.agg us.toArray = A at h2
      cases h2 with
      | agg => exact ⟨_, rfl⟩
      | any _ h => subst hA; cases h
      | _ => cases hA
    subst hx
    have hl := CRel.len h2
    obtain ⟨v, hv, hr, hna⟩ := CRel.cell_ok h2 (List.getElem?_eq_getElem (show q < cs.length by omega))
    rw [List.getElem?_eq_getElem hq] at hv
    cases hv
    exact (hr.notAgg hna).2
theorem divmod_lt {n sz q : Nat} (h : q < n * sz) (h0 : 0 < sz) : q / sz < n ∧ q = q / sz * sz + q % sz ∧ q % sz < sz :=
  ⟨Nat.div_lt_of_lt_mul (by rwa [Nat.mul_comm] at h), by rw [Nat.mul_comm]; exact (Nat.div_add_mod q sz).symm, Nat.mod_lt q h0⟩
theorem Rows.one {sh : Option Nat} {xs : List CV} {cs : List Value} (h : Rows w F sh xs cs) (h0 : 0 < szOf sh) : ∀ u ∈ cs, u.oneCell' = true := by
  intro u hu
  obtain ⟨q, hq, rfl⟩ := List.mem_iff_getElem.1 hu
  obtain ⟨h1, h2, h3⟩ := divmod_lt (by rw [← h.1]; exact hq) h0
  obtain ⟨us, g1, g2⟩ := h.2 _ _ (List.getElem?_eq_getElem h1)
  have hm : q % szOf sh < us.length := by rw [g1.1]; exact h3
  have := g2 _ _ (List.getElem?_eq_getElem hm)
  rw [← h2, List.getElem?_eq_getElem hq] at this
  rw [Option.some.inj this]
  exact g1.one _ (List.getElem_mem hm)
/-- The cells of a row that is read. -/
theorem RowRel.rows {G : Nat → Prop} {sh : Option Nat} {xs : List CV} {v : Value} (h : RowRel w F G sh xs v) (h0 : 0 < szOf sh) : ∃ A c cs, v = .slice A xs.length c ∧ xs.length ≤ c ∧ Rows w F sh xs cs ∧ (xs = [] ∨ ∃ b o, A = some ⟨b, o, none⟩ ∧ G b ∧ ∀ (j : Nat) u, cs[j]? = some u → w.cell? ⟨b, o + j, none⟩ = some u) := by
  obtain ⟨A, c, rfl, hc, h⟩ := h
  rcases Nat.eq_zero_or_pos xs.length with e | e
  · have : xs = [] := List.eq_nil_of_length_eq_zero e
    subst this
    exact ⟨A, c, [], rfl, hc, ⟨by simp, fun i x hx => by simp at hx⟩, .inl rfl⟩
  · obtain ⟨b, o, rfl, hb, he⟩ := h e
    have hcell : ∀ q, q < xs.length * szOf sh → ∃ u, w.cell? ⟨b, o + q, none⟩ = some u := fun q hq => by
      obtain ⟨h1, h2, h3⟩ := divmod_lt hq h0
      obtain ⟨us, g1, g2⟩ := (he _ _ (List.getElem?_eq_getElem h1)).row
      have hm : q % szOf sh < us.length := by rw [g1.1]; exact h3
      have := g2 _ _ (List.getElem?_eq_getElem hm)
      rw [Nat.add_assoc, ← h2] at this
      exact ⟨_, this⟩
    refine ⟨_, c, (List.range (xs.length * szOf sh)).map fun q => (w.cell? ⟨b, o + q, none⟩).getD undef, rfl, hc, ⟨by simp, fun i x hx => ?_⟩, .inr ⟨b, o, rfl, hb, fun q u hu => ?_⟩⟩
    · obtain ⟨us, g1, g2⟩ := (he i x hx).row
      refine ⟨us, g1, fun j u hu => ?_⟩
      have hj := (List.getElem?_eq_some_iff.1 hu).1
      have hi := (List.getElem?_eq_some_iff.1 hx).1
      rw [g1.1] at hj
      have hlt : i * szOf sh + j < xs.length * szOf sh := by
        have : (i + 1) * szOf sh ≤ xs.length * szOf sh := Nat.mul_le_mul_right _ hi
        rw [Nat.add_mul, Nat.one_mul] at this
        omega
      rw [List.getElem?_map, List.getElem?_range hlt, Option.map_some]
      have := g2 j u hu
      rw [Nat.add_assoc] at this
      rw [this]; rfl
    · rw [List.getElem?_map, Option.map_eq_some_iff] at hu
      obtain ⟨q', hq', rfl⟩ := hu
      have hlt : q < xs.length * szOf sh := by have := (List.getElem?_eq_some_iff.1 hq').1; simpa using this
      rw [List.getElem?_range hlt] at hq'
      cases hq'
      obtain ⟨u, hu⟩ := hcell q hlt
      rw [hu]; rfl
/-- A row lies where its cells lie. -/
theorem NRel.mkRow {nm : Nm} {sh : Option Nat} {xs : List CV} {b : Nat} {cs : List Value} (h0 : 0 < szOf sh) (hφ : φ nm = .at_ (some b) xs.length) (hw : WrB sh w b) (hl : xs.length * szOf sh ≤ bsize w b) (hr : Rows w F sh xs cs) (hc : ∀ (j : Nat) u, cs[j]? = some u → w.cell? ⟨b, j, none⟩ = some u) : NRel w φ F B nm (.row false sh xs) := by
  refine ⟨h0, some b, hφ, (fun e => by cases e), fun b' e => ?_⟩
  cases e
  refine ⟨hw, (fun e => by cases e), hl, fun i x hx => ?_⟩
  obtain ⟨us, g1, g2⟩ := hr.2 i x hx
  exact g1.at h0 (fun j u hu => hc _ _ (g2 j u hu))
theorem elemOk_spec (hT : TabOk T P) {e : Nat} (h : elemOk T e = true) : ∃ inf z, P.info? e = some inf ∧ inf.size = szOf (shOf T e) ∧ inf.bytes = bytesT T e ∧ inf.zero = some z ∧ z.cells.size = szOf (shOf T e) ∧ 0 < szOf (shOf T e) ∧ 0 < inf.bytes ∧ (∀ w φ F B, VRel w φ F B (zeroT T e) z) ∧ (zeroT T e).lv1 = [] ∧ sizeT T e = szOf (shOf T e) := by
  unfold elemOk at h
  split at h
  · next i eq =>
    simp only [Bool.and_eq_true] at h
    obtain ⟨⟨⟨h1, h2⟩, h3⟩, _⟩ := h
    have h1 : 0 < i.size := Nat.le_of_ble_eq_true h1
    have h2 : 0 < i.bytes := Nat.le_of_ble_eq_true h2
    have h3 := Nat.eq_of_beq_eq_true h3
    obtain ⟨inf, z, g1, g2, g3, g4, g5, g6, g7⟩ := hT.info e i eq
    exact ⟨inf, z, g1, by omega, by simp [bytesT, eq, g3], g4, by omega, by omega, by omega, by simpa [zeroT, eq] using g5, by simpa [zeroT, eq] using g7, by simp [sizeT, eq, h3]⟩
  · cases h
theorem elemOk_one {e : Nat} (h : elemOk T e = true) {z : Value} (w : World) (hz : ∀ w φ F B, VRel w φ F B (zeroT T e) z) : ∀ u ∈ z.cells.toList, u.oneCell' = true := by
  unfold elemOk at h
  split at h
  · next i eq =>
    simp only [Bool.and_eq_true] at h
    refine (cells_rel (hz w (fun _ => .absent) (fun _ => False) (fun _ => False)) ?_).2.2
    simp only [zeroT, eq]
    exact h.2
  · cases h
theorem zeros_one {cs : Array Value} (h : ∀ u ∈ cs.toList, u.oneCell' = true) (h0 : 0 < cs.size) (m : Nat) : ∀ u ∈ ((Array.range m).map (cs[· % cs.size]!)).toList, u.oneCell' = true := fun u hu => by
  simp only [Array.toList_map, List.mem_map] at hu
  obtain ⟨q, _, rfl⟩ := hu
  have hq : q % cs.size < cs.size := Nat.mod_lt _ h0
  rw [getElem!_pos cs _ hq]
  exact h _ (by simp)
theorem fitSh_row {sh : Option Nat} {c : CV} {v : Value} (h : fitSh sh c = true) (hr : CRel w F c v) : ERow w F sh c v.cells.toList ∧ v.cells.size = szOf sh := by
  unfold fitSh at h
  split at h
  · have hn : c.isAgg = false := by simpa using h
    obtain ⟨h1, h2⟩ := hr.notAgg hn
    rw [h1]
    exact ⟨⟨rfl, hn, fun u hu => by simp at hu; rw [← hu]; exact hr⟩, rfl⟩
  · next n =>
    rw [Bool.and_eq_true] at h
    obtain ⟨ds, rfl⟩ : ∃ ds, c = .agg ds := by cases c <;> first | exact ⟨_, rfl⟩ | (exact absurd h.1 (by simp [CV.isAgg]))
    have hn : ds.length = n := Nat.eq_of_beq_eq_true h.2
    obtain ⟨vs, rfl⟩ := hr.agg_val
    have hl := hr.len
    refine ⟨⟨by simp [Value.cells, szOf]; omega, by simpa [Value.cells] using hr⟩, by simp [Value.cells, szOf]; omega⟩
theorem Rows.set {sh : Option Nat} {xs : List CV} {cs : List Value} (h : Rows w F sh xs cs) {i : Nat} {c : CV} {us : List Value} (hi : i < xs.length) (hu : ERow w F sh c us) : Rows w F sh (xs.set i c) (spliceV cs (i * szOf sh) us) := by
  have hle : i * szOf sh + us.length ≤ cs.length := by
    rw [hu.1, h.1]
    have : (i + 1) * szOf sh ≤ xs.length * szOf sh := Nat.mul_le_mul_right _ hi
    rwa [Nat.add_mul, Nat.one_mul] at this
  refine ⟨by rw [spliceV_length, List.length_set]; exact h.1, fun q x hx => ?_⟩
  rw [list_set_get xs i c hi] at hx
  split at hx
  · next e =>
    subst e
    cases hx
    refine ⟨us, hu, fun j u hj => ?_⟩
    have := (List.getElem?_eq_some_iff.1 hj).1
    rw [spliceV_get us cs _ _ hle, if_pos (by omega), show i * szOf sh + j - i * szOf sh = j by omega]
    exact hj
  · next e =>
    obtain ⟨ws, g1, g2⟩ := h.2 q x hx
    refine ⟨ws, g1, fun j u hj => ?_⟩
    have hjl := (List.getElem?_eq_some_iff.1 hj).1
    rw [g1.1] at hjl
    have h3 := hu.1
    rw [spliceV_get us cs _ _ hle, if_neg]
    · exact g2 j u hj
    · rcases Nat.lt_or_ge q i with hq | hq
      · have : (q + 1) * szOf sh ≤ i * szOf sh := Nat.mul_le_mul_right _ hq
        rw [Nat.add_mul, Nat.one_mul] at this
        omega
      · have : (i + 1) * szOf sh ≤ q * szOf sh := Nat.mul_le_mul_right _ (by omega)
        rw [Nat.add_mul, Nat.one_mul] at this
        omega
theorem elemsL_sound (hI : Inv fr φ F s a w) (hF : ∀ k, F k → F' k) {e : Nat} (hsz : sizeT T e = szOf (shOf T e)) : ∀ (ps : List (Nat × AVal)) (qs : List (Nat × Value)) (xs : List CV) (cs : List Value) (K : List CV → Option X),
    elemsL T e s.nodes ps xs K = some out → PRel w φ F B ps qs → Rows w F' (shOf T e) xs cs → (∀ nm ∈ ps.flatMap (·.2.lv1), ∀ fz sh ys, find nm s.nodes = some (.row fz sh ys) → ∀ k, BlkOf φ nm k → F' k) →
    ∃ xs' cs', K xs' = some out ∧ xs'.length = xs.length ∧ Rows w F' (shOf T e) xs' cs' ∧ Instr.fill (fun i => some (i * sizeT T e, sizeT T e)) cs.toArray qs = some cs'.toArray
  | [], [], xs, cs, K, h, _, hr, _ => ⟨xs, cs, h, rfl, hr, rfl⟩
  | [], _ :: _, _, _, _, _, hp, _, _ => hp.elim
  | (f, x) :: ps, [], _, _, _, _, hp, _, _ => hp.elim
  | (f, x) :: ps, (g, v) :: qs, xs, cs, K, h, hp, hr, hb => by
    obtain ⟨rfl, hx, hp⟩ := hp
    unfold elemsL at h
    obtain ⟨c, hc, h1⟩ := bind_some h
    obtain ⟨g1, h2⟩ := grd_some h1
    rw [Bool.and_eq_true] at g1
    have g2 : f < xs.length := Nat.le_of_ble_eq_true g1.1
    have hcr : CRel w F' c v := closed_spec hI hF hc (hx.resize (T := T) e) (fun nm hm => hb nm (by rw [lv1_resize] at hm; rw [List.flatMap_cons]; exact List.mem_append_left _ hm))
    obtain ⟨hrow, hcs⟩ := fitSh_row g1.2 hcr
    obtain ⟨xs', cs', k1, k2, k3, k4⟩ := elemsL_sound hI hF hsz ps qs (xs.set f c) _ K h2 hp (hr.set g2 hrow) (fun nm hm => hb nm (by rw [List.flatMap_cons]; exact List.mem_append_right _ hm))
    refine ⟨xs', cs', k1, by rw [k2, List.length_set], k3, ?_⟩
    rw [fill_step (off := f * sizeT T e) (n := sizeT T e) rfl (by omega) (by
      rw [hr.1, hsz, hcs]
      have : (f + 1) * szOf (shOf T e) ≤ xs.length * szOf (shOf T e) := Nat.mul_le_mul_right _ g2
      rwa [Nat.add_mul, Nat.one_mul] at this), hsz]
    rw [hsz] at k4
    exact k4
theorem Rows.zeros {sh : Option Nat} {z : CV} {us : List Value} (h0 : 0 < szOf sh) (hu : ERow w F sh z us) (n : Nat) : Rows w F sh (List.replicate n z) ((Array.range (n * szOf sh)).map (us.toArray[· % us.toArray.size]!)).toList := by
  refine ⟨by simp, fun i x hx => ?_⟩
  have hi := (List.getElem?_eq_some_iff.1 hx).1
  rw [List.length_replicate] at hi
  rw [List.getElem?_replicate, if_pos hi] at hx
  cases hx
  refine ⟨us, hu, fun j u hj => ?_⟩
  have hjl := (List.getElem?_eq_some_iff.1 hj).1
  have hlt : i * szOf sh + j < n * szOf sh := by
    have : (i + 1) * szOf sh ≤ n * szOf sh := Nat.mul_le_mul_right _ hi
    rw [Nat.add_mul, Nat.one_mul] at this
    rw [hu.1] at hjl
    omega
  rw [Array.getElem?_toList, Array.getElem?_map, Array.getElem?_range, if_pos hlt, Option.map_some]
  congr 1
  have h1 : us.toArray.size = szOf sh := by simpa using hu.1
  rw [h1, Nat.add_comm, Nat.add_mul_mod_self_right, Nat.mod_eq_of_lt (by rw [← hu.1]; exact hjl)]
  rw [getElem!_pos us.toArray j (by simpa using hjl)]
  simpa using (List.getElem?_eq_some_iff.1 hj).2
/-- A row of the call's own is laid in a new block. -/
theorem Inv.layRowAt (hFr : FrOk fr) (hI : Inv fr φ F s a w) {d : Nat} {sh : Option Nat} {xs : List CV} {cs : List Value} {cells : Array Value} {e : TypeId} (w1 : World) (hs : Stp (fun _ => False) w w1) (hsz : w1.heap.size = w.heap.size) (h0 : 0 < szOf sh) (hn : find [d] s.nodes = none) (hd : d < 1000)
    (hr : Rows w F sh xs cs) (hc : ∀ (j : Nat) u, cs[j]? = some u → cells[j]? = some u) (hl : xs.length * szOf sh ≤ cells.size) (h1 : ∀ u ∈ cells.toList, u.oneCell' = true) {n cap : Nat} (hnx : xs.length = n) (hcap : n ≤ cap) (hcs : cap * szOf sh ≤ cells.size) :
    ∃ φ', φ' [d] = .at_ (some w.heap.size) n ∧ Inv fr φ' F ((⟨s.tmps, insN ([d], .row false sh xs) s.nodes⟩ : St).put (some d) (.osl [d] sh 0 n)) (a.put (some d) (.slice (some ⟨w.heap.size, 0, none⟩) n cap)) (w1.alloc (.cells cells e)) := by
  subst hnx
  have hstp : Stp (fun _ => False) w (w1.alloc (.cells cells e)) := hs.trans (Stp.alloc w1 _) (fun _ hf _ => hf.elim)
  have hfr := hI.fresh
  have hbs : bsize (w1.alloc (.cells cells e)) w.heap.size = cells.size := by rw [← hsz]; exact bsize_alloc w1 cells e
  have hwr : WrB sh (w1.alloc (.cells cells e)) w.heap.size := by rw [← hsz]; exact WrB.alloc w1 cells e h1
  obtain ⟨φ1, hI1, hloc, _, hφ1⟩ := hI.new (nm := [d]) hn (.row false sh xs) (.at_ (some w.heap.size) xs.length) hstp (fun k hk _ => hk.elim)
    (fun b k e => by
      cases e
      exact ⟨hfr.1, hfr.2.1, hfr.2.2.1, fun m n j _ hm _ => hfr.2.2.2 m n j hm⟩)
    (fun cs b k e => by cases e)
    (fun φ' _ hself _ => NRel.mkRow (cs := cs) h0 hself hwr (by rw [hbs]; exact hl) (hr.mono (fun _ h => h) (fun k hk => hstp.block k (hI.fb k (.inl hk)) (fun h => h))) (fun j u hu => by
      rw [World.cell?_alloc_at cells e w.heap.size j hsz.symm]; exact hc j u hu)) (okNm_small hd)
  have hI1 : Inv fr φ1 F ⟨s.tmps, insN ([d], .row false sh xs) s.nodes⟩ a (w1.alloc (.cells cells e)) := hI1.perm (insN_perm _ _)
  refine ⟨φ1, hloc, hI1.put (.osl hloc (.inr (.inl ⟨w.heap.size, cap, rfl, by rw [Nat.zero_mul], by omega, by omega, by rw [hbs, Nat.zero_add]; exact hcs, szOf_ne h0⟩))) (some d)⟩
theorem Inv.layRow (hFr : FrOk fr) (hI : Inv fr φ F s a w) {d : Nat} {sh : Option Nat} {xs : List CV} {cs : List Value} {cells : Array Value} {e : TypeId} (w1 : World) (hs : Stp (fun _ => False) w w1) (hsz : w1.heap.size = w.heap.size) (h0 : 0 < szOf sh) (hn : find [d] s.nodes = none) (hd : d < 1000)
    (hr : Rows w F sh xs cs) (hc : ∀ (j : Nat) u, cs[j]? = some u → cells[j]? = some u) (hl : xs.length * szOf sh ≤ cells.size) (h1 : ∀ u ∈ cells.toList, u.oneCell' = true) {n cap : Nat} (hnx : xs.length = n) (hcap : n ≤ cap) (hcs : cap * szOf sh ≤ cells.size) :
    ∃ φ', Inv fr φ' F ((⟨s.tmps, insN ([d], .row false sh xs) s.nodes⟩ : St).put (some d) (.osl [d] sh 0 n)) (a.put (some d) (.slice (some ⟨w.heap.size, 0, none⟩) n cap)) (w1.alloc (.cells cells e)) := by
  obtain ⟨φ', _, h⟩ := Inv.layRowAt hFr hI w1 hs hsz h0 hn hd hr hc hl h1 hnx hcap hcs (e := e)
  exact ⟨φ', h⟩
theorem evBuildSlice_sound (hT : TabOk T P) (hFr : FrOk fr) (hI : Inv fr φ F s a w) {d : Option Tmp} {t n : Nat} {ps : List (Nat × AVal)} {qs : List (Nat × Value)} {K : St → Option X} (h : evBuildSlice T s d t n ps K = some out) (hp : PRel w φ F fr.B ps qs) :
    ∃ φ' F' s' w' v, K s' = some out ∧ Inv fr φ' F' s' (a.put d v) w' ∧ ∀ parts : Array (Nat × Value), parts.toList = qs → (Instr.buildSlice t n parts).run P w = .ok v w' := by
  unfold evBuildSlice at h
  split at h
  · next d e _ _ _ eq =>
    split at h
    · next z hz =>
      obtain ⟨g, h1⟩ := grd_some h
      simp only [Bool.and_eq_true] at g
      obtain ⟨⟨⟨g1, g2⟩, g3⟩, g4⟩ := g
      have g2 : d < 1000 := Nat.le_of_ble_eq_true g2
      have g3 := Nat.le_of_ble_eq_true g3
      obtain ⟨inf, zv, i1, i2, i3, i4, i5, i6, i7, i8, i9, i10⟩ := elemOk_spec hT g1
      have hu := hT.td t _ eq
      simp only [TDOk] at hu
      obtain ⟨F', hI2, hFF, hbl, hsame⟩ := frzN_sound (ps.flatMap (·.2.lv1)) hI
      have hzr : CRel w F' z zv := closed_spec hI hFF hz (i8 w φ F fr.B) (fun nm hm => by rw [i9] at hm; simp at hm)
      obtain ⟨hzrow, _⟩ := fitSh_row g4 hzr
      obtain ⟨xs, cs, k1, k2, k3, k4⟩ := elemsL_sound hI hFF i10 ps qs _ _ _ h1 hp (Rows.zeros i6 hzrow n) (fun nm hm fz sh ys hf k hk => hbl nm hm fz sh ys hf k hk)
      obtain ⟨hn, k5⟩ := new_some k1
      rw [List.length_replicate] at k2
      have hcl : cs.length = n * szOf (shOf T e) := by rw [k3.1, k2]
      obtain ⟨φ', hI3⟩ := Inv.layRow (fr := fr) (e := e) (cells := cs.toArray) hFr hI2 w (Stp.refl _ _) rfl i6 hn g2 k3 (fun j u hu => by simpa using hu) (by simp [hcl, k2]) (by simpa using k3.one i6) (n := n) (cap := n) k2 (Nat.le_refl _) (by simp [hcl])
      refine ⟨φ', F', _, _, _, k5, hI3, fun parts hparts => ?_⟩
      have hsmall : ¬ n * inf.size > 2 ^ 24 := by rw [i2, ← i10]; omega
      have hfill : Instr.fill (fun i => some (i * inf.size, inf.size)) ((Array.range (n * inf.size)).map (zv.cells[· % zv.cells.size]!)) parts.toList = some cs.toArray := by
        rw [hparts, i2]
        rw [i10, Array.toArray_toList] at k4
        have hzz : zv.cells.toList.toArray = zv.cells := by simp
        rw [hzz] at k4
        exact k4
      by_cases hpos : n * inf.size = 0
      · have hn0 : n = 0 := by
          rcases Nat.eq_zero_or_pos n with h | h
          · exact h
          · have := Nat.mul_pos h (by omega : 0 < inf.size); omega
        subst hn0
        have hcs : cs = [] := List.eq_nil_of_length_eq_zero (by rw [hcl]; simp)
        subst hcs
        have hz0 : (Array.range (0 * inf.size)).map (zv.cells[· % zv.cells.size]!) = #[] := by simp
        rw [hz0] at hfill
        unfold Instr.buildSlice
        have hz1 : (Array.range 0).map (fun _ : Nat => (default : Value)) = #[] := by simp [Array.range]
        simp [run_underlying hu, sizeOf, typeInfo, i1, newRow]
        rw [hz1, hfill]
        simp [newObj, Sem.run]
      · exact run_buildSlice w t e n parts cs.toArray inf zv hu i1 i4 hsmall hpos hfill
    · cases h
  · cases h
theorem evMakeSlice_sound (hT : TabOk T P) (hFr : FrOk fr) (hI : Inv fr φ F s a w) {d : Option Tmp} {t : Nat} {l c : AVal} {vl vc : Value} {K : St → Option X} (h : evMakeSlice T s d t l c K = some out) (hl : VRel w φ F fr.B l vl) (hc : VRel w φ F fr.B c vc) :
    ∃ φ' s' w' v, K s' = some out ∧ Inv fr φ' F s' (a.put d v) w' ∧ (Instr.makeSlice t vl vc).run P w = .ok v w' := by
  unfold evMakeSlice at h
  split at h
  · next d e _ _ _ eq =>
    obtain ⟨kl, l, rfl, h1⟩ := asI_some h hl
    obtain ⟨kc, c, rfl, h2⟩ := asI_some h1 hc
    clear h h1
    split at h2
    · next z hz =>
      obtain ⟨g, h3⟩ := grd_some h2
      simp only [Bool.and_eq_true] at g
      obtain ⟨⟨g1, g2⟩, g4⟩ := g
      have g2 : d < 1000 := Nat.le_of_ble_eq_true g2
      obtain ⟨k1, h4⟩ := grd_some h3
      obtain ⟨k2, h5⟩ := grd_some h4
      obtain ⟨k3, h6⟩ := grd_some h5
      have k1 := of_decide_eq_true k1
      have k2 := of_decide_eq_true k2
      have k3 := of_decide_eq_true k3
      obtain ⟨hn, h7⟩ := new_some h6
      obtain ⟨inf, zv, i1, i2, i3, i4, i5, i6, i7, i8, i9, i10⟩ := elemOk_spec hT g1
      have hu := hT.td t _ eq
      simp only [TDOk] at hu
      have hzr : CRel w F z zv := closed_spec hI (fun _ h => h) hz (i8 w φ F fr.B) (fun nm hm => by rw [i9] at hm; simp at hm)
      obtain ⟨hzrow, _⟩ := fitSh_row g4 hzr
      rw [← i3] at k3
      have hc1 : c ≤ 140737488355328 := by
        have : c * 1 ≤ c * (inf.bytes : Int) := Int.mul_le_mul_of_nonneg_left (by omega) (by omega)
        omega
      have hrows := Rows.zeros i6 hzrow l.toNat
      have hzc : zv.cells.toList.toArray = zv.cells := by simp
      rw [hzc] at hrows
      obtain ⟨φ', hI3⟩ := Inv.layRow (fr := fr) (e := e) (cells := (Array.range (c.toNat * szOf (shOf T e))).map (zv.cells[· % zv.cells.size]!)) hFr hI w (Stp.refl _ _) rfl i6 hn g2 hrows (fun j u hu => by
        have hj := (List.getElem?_eq_some_iff.1 hu).1
        simp at hj
        rw [Array.getElem?_toList, Array.getElem?_map, Array.getElem?_range, if_pos hj] at hu
        have : j < c.toNat * szOf (shOf T e) := by
          have : l.toNat * szOf (shOf T e) ≤ c.toNat * szOf (shOf T e) := Nat.mul_le_mul_right _ (by omega)
          omega
        rw [Array.getElem?_map, Array.getElem?_range, if_pos this]
        exact hu) (by simp; exact Nat.mul_le_mul_right _ (by omega)) (zeros_one (elemOk_one g1 w i8) (by omega) _) (n := l.toNat) (cap := c.toNat) (by simp) (by omega) (by simp)
      refine ⟨φ', _, _, _, h7, hI3, ?_⟩
      have w1 : IntKind.i64.wrap l = l := by
        unfold IntKind.wrap; simp [IntKind.bits, IntKind.signed]; omega
      have w2 : IntKind.i64.wrap c = c := by
        unfold IntKind.wrap; simp [IntKind.bits, IntKind.signed]; omega
      unfold Instr.makeSlice
      have t1 : ¬ (c < 0 ∨ 281474976710656 < (inf.bytes : Int) * c) := by rw [Int.mul_comm]; omega
      have t2 : ¬ (l < 0) := by omega
      have t3 : ¬ (c < l) := by omega
      have t4 : ¬ roomBytes < c.toNat * inf.bytes := by
        unfold roomBytes
        have : ((c.toNat * inf.bytes : Nat) : Int) ≤ 140737488355328 := by rw [Int.natCast_mul]; have : (c.toNat : Int) = c := by omega
                                                                           rw [this]; exact k3
        omega
      have t5 : ¬ ((decide (c < 0) || decide ((inf.bytes : Int) * c > 2 ^ 48)) = true ∨ l < 0 ∨ l > c) := by
        simp only [Bool.or_eq_true, decide_eq_true_eq]
        omega
      simp only [Sem.run_bind, run_underlying hu, Result.andThen_ok, asInt, asIntOf, Sem.run_pure, run_typeInfo w i1, w1, w2]
      have t6 : ((decide (c < 0) || decide ((inf.bytes : Int) * c > 2 ^ 48)) || decide (l < 0) || decide (l > c)) = false := by
        simp only [Bool.or_eq_false_iff, decide_eq_false_iff_not]
        omega
      simp only [t6, Bool.false_eq_true, if_false]
      simp only [Sem.run_bind, askRoom, t4, if_false, Sem.run_pure, Result.andThen_ok, sizeOf, run_typeInfo w i1]
      by_cases hz0 : c.toNat * inf.size = 0
      · rw [i2] at hz0
        simp [i2, hz0, newRow]
        simp [Array.range]
      · rw [i2] at hz0
        simp [i2, hz0, newRow, zeroValue, run_typeInfo w i1, i4]
    · cases h2
  · cases h
end
end Go.Proofs.YtlaojkheenobaaaDoorS
