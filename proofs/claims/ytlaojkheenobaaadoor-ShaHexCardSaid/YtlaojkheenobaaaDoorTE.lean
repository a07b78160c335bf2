/- Functions: an answer of the evaluator holds of the function's calls. -/
import Derived.Test.YtlaojkheenobaaaDoorTD
namespace Go.Proofs.YtlaojkheenobaaaDoorS
open Go Go.RowKit
set_option linter.unusedVariables false
set_option linter.unusedSimpArgs false
section
variable {X : Type} {P : Program} {cx : Cx} {T : Tab} {fr : Fr} {φ φ' : Nm → Loc} {F F' B B' : Nat → Prop} {s : St} {a : Act} {w w' : World} {out : X}
theorem Inv.tmps (hI : Inv fr φ F s a w) {l : List AVal} {vs : List Value} (h : VRelL w φ F fr.B l vs) : Inv fr φ F ⟨l, s.nodes⟩ ⟨vs.toArray, []⟩ w :=
  { hI with
    len := by simpa using h.1
    tm := fun t => h.tm t
    defers := rfl }
theorem outFix_mem {σ : Nm → Sb} : ∀ {l : Nodes}, outFix σ l = true → ∀ m m' cs, (m, Node.obj cs) ∈ l → σ m = .to m' → m' = m ∨ 2000 ≤ m'.getLastD 0
  | [], _, m, m', cs, h, _ => by simp at h
  | (q, n) :: l, hs, m, m', cs, h, hm => by
    cases n with
    | row fz sh xs =>
      rcases List.mem_cons.1 h with e | h
      · cases e
      · exact outFix_mem (l := l) hs m m' cs h hm
    | dead =>
      rcases List.mem_cons.1 h with e | h
      · cases e
      · exact outFix_mem (l := l) hs m m' cs h hm
    | iter =>
      rcases List.mem_cons.1 h with e | h
      · cases e
      · exact outFix_mem (l := l) hs m m' cs h hm
    | obj ds =>
      have hs' : ((match σ q with
        | .to c => nmEq c q || Nat.ble 2000 (c.getLastD 0)
        | .gone => true) && outFix σ l) = true := hs
      rw [Bool.and_eq_true] at hs'
      rcases List.mem_cons.1 h with e | h
      · cases e
        have h1 := hs'.1
        rw [hm] at h1
        simp only [Bool.or_eq_true] at h1
        rcases h1 with h1 | h1
        · exact .inl (nmEq_iff.1 h1)
        · exact .inr (Nat.le_of_ble_eq_true h1)
      · exact outFix_mem hs'.2 m m' cs h hm
theorem maxL_le : ∀ {l : List Nat} {x : Nat}, x ∈ l → x ≤ maxL l
  | [], x, h => by simp at h
  | [a], x, h => by simp at h; subst h; exact Nat.le_refl _
  | a :: b :: l, x, h => by
    show x ≤ max a (maxL (b :: l))
    rcases List.mem_cons.1 h with rfl | h
    · exact Nat.le_max_left _ _
    · exact Nat.le_trans (maxL_le h) (Nat.le_max_right _ _)
/-- Names as they are when rows are cut. -/
def trimφ (φ : Nm → Loc) (ns : Nodes) (f : Nm → List Nat) (nm : Nm) : Loc := match φ nm with
  | .at_ blk n => (match find nm ns, f nm with
    | some (.row _ _ _), x :: l => .at_ blk (min (maxL (x :: l)) n)
    | _, _ => .at_ blk n)
  | l => l
theorem trimφ_at {f : Nm → List Nat} {ns : Nodes} {nm : Nm} {blk : Option Nat} {n : Nat} (h : φ nm = .at_ blk n) : ∃ n', trimφ φ ns f nm = .at_ blk n' ∧ n' ≤ n ∧ (n' = n ∨ (f nm ≠ [] ∧ n' = min (maxL (f nm)) n)) := by
  unfold trimφ
  rw [h]
  simp only
  split
  · next e1 e2 => exact ⟨_, rfl, Nat.min_le_right _ _, .inr ⟨by rw [e2]; simp, by rw [e2]⟩⟩
  · exact ⟨n, rfl, Nat.le_refl _, .inl rfl⟩
theorem trimφ_of {f : Nm → List Nat} {ns : Nodes} {nm : Nm} {blk : Option Nat} {n' : Nat} (h : trimφ φ ns f nm = .at_ blk n') : ∃ n, φ nm = .at_ blk n := by
  unfold trimφ at h
  cases e : φ nm with
  | at_ b n =>
    rw [e] at h
    simp only at h
    split at h
    · cases h; exact ⟨_, rfl⟩
    · cases h; exact ⟨_, rfl⟩
  | absent => rw [e] at h; cases h
  | dead => rw [e] at h; cases h
theorem trimφ_dead {f : Nm → List Nat} {ns : Nodes} {nm : Nm} (h : φ nm = .dead) : trimφ φ ns f nm = .dead := by unfold trimφ; rw [h]
theorem trimV0 {f : Nm → List Nat} {ns : Nodes} {x : AVal} {v : Value} (h : VRel w φ F B x v) (hn : noB0 x = true) (hf : ∀ nm n, n ∈ refs0 nm x → f nm = [] ∨ n ∈ f nm) : VRel w (trimφ φ ns f) F B x v := by
  cases h with
  | v h => exact .v h
  | sl h => exact .sl h
  | nil0 A => exact .nil0 A
  | oslD h A n c => exact .oslD (trimφ_dead h) A n c
  | @osl nm sh off len blk n v h h' =>
    obtain ⟨n', h1, h2, h3⟩ := trimφ_at (f := f) (ns := ns) h
    refine .osl h1 ?_
    rcases h' with ⟨A, e, hl, ho⟩ | ⟨b, cap, g1, g2, g3, g4, g5, g6⟩ | ⟨e0, A, cap, g2, g3, g4, g5⟩
    · exact .inl ⟨A, e, hl, by omega⟩
    rotate_left
    · refine .inr (.inr ⟨e0, A, cap, g2, ?_, g4, g5⟩)
      rcases h3 with h3 | ⟨hne, h3⟩
      · omega
      · have := maxL_le ((hf nm (off + len) (by simp [refs0, nmEq_refl])).resolve_left hne)
        omega
    · refine .inr (.inl ⟨b, cap, g1, g2, ?_, by omega, g5, g6⟩)
      rcases h3 with h3 | ⟨hne, h3⟩
      · omega
      · have := maxL_le ((hf nm (off + len) (by simp [refs0, nmEq_refl])).resolve_left hne)
        omega
  | ptrD h A => exact .ptrD (trimφ_dead h) A
  | ptr h => obtain ⟨n', h1, _⟩ := trimφ_at (f := f) (ns := ns) h; exact .ptr h1
  | bptr hb h => exact .bptr hb h
  | agg hl ho h => cases hn
  | tup hl h => cases hn
  | fn hl h => cases hn
  | undef v => exact .undef v
theorem trimV1 {f : Nm → List Nat} {ns : Nodes} {x : AVal} {v : Value} (h : VRel w φ F B x v) (hn : noB1 x = true) (hf : ∀ nm n, n ∈ refs1 nm x → f nm = [] ∨ n ∈ f nm) : VRel w (trimφ φ ns f) F B x v := by
  cases x with
  | agg cs =>
    cases h with
    | agg hl ho h =>
      refine .agg hl ho (fun j c v hc hv => trimV0 (h j c v hc hv) ?_ (fun nm n hm => hf nm n ?_))
      · have : cs.all noB0 = true := hn
        exact List.all_eq_true.1 this c (List.mem_of_getElem? hc)
      · exact List.mem_flatMap.2 ⟨c, List.mem_of_getElem? hc, hm⟩
  | _ => exact trimV0 h hn hf
theorem trimV2 {f : Nm → List Nat} {ns : Nodes} {x : AVal} {v : Value} (h : VRel w φ F B x v) (hn : noB x = true) (hf : ∀ nm n, n ∈ refs2 nm x → f nm = [] ∨ n ∈ f nm) : VRel w (trimφ φ ns f) F B x v := by
  cases x with
  | tup cs =>
    cases h with
    | tup hl h =>
      refine .tup hl (fun j c v hc hv => trimV1 (h j c v hc hv) ?_ (fun nm n hm => hf nm n ?_))
      · have : cs.all noB1 = true := hn
        exact List.all_eq_true.1 this c (List.mem_of_getElem? hc)
      · exact List.mem_flatMap.2 ⟨c, List.mem_of_getElem? hc, hm⟩
  | _ => exact trimV1 h hn hf
theorem refsN_mem {nm m : Nm} {cs : List AVal} {c : AVal} {n : Nat} : ∀ {ns : Nodes}, (m, Node.obj cs) ∈ ns → c ∈ cs → n ∈ refs0 nm c → n ∈ refsN nm ns
  | [], h, _, _ => by simp at h
  | (q, k) :: l, h, hc, hn => by
    rcases List.mem_cons.1 h with e | h
    · cases e
      exact List.mem_append_left _ (List.mem_flatMap.2 ⟨c, hc, hn⟩)
    · have := refsN_mem h hc hn
      cases k with
      | obj ds => exact List.mem_append_right _ this
      | row fz sh xs => exact this
      | iter => exact this
      | dead => exact this
theorem trim1_own (l : List Nat) (n : Node) : (trim1 l n).own = n.own := by
  cases n with
  | row fz sh xs =>
    cases l with
    | nil => rfl
    | cons a l => cases l <;> rfl
  | obj cs => rfl
  | iter => rfl
  | dead => rfl
theorem Inv.trim {rv : AVal} {v : Value} {ns : Nodes} {f : Nm → List Nat} (hI : Inv fr φ F ⟨[rv], ns⟩ ⟨#[v], []⟩ w) (h1 : noB rv = true) (h2 : noBN ns = true) (hf1 : ∀ nm n, n ∈ refs2 nm rv → f nm = [] ∨ n ∈ f nm) (hf2 : ∀ nm n, n ∈ refsN nm ns → f nm = [] ∨ n ∈ f nm) (hf3 : ∀ r, 1000 ≤ r → r < 2000 → f [r] = []) :
    Inv fr (trimφ φ ns f) F ⟨[rv], trimAll f ns⟩ ⟨#[v], []⟩ w := by
  have hmem : ∀ {nm n}, (nm, n) ∈ trimAll f ns → ∃ n0, (nm, n0) ∈ ns ∧ n = trim1 (f nm) n0 := fun {nm n} h => by
    obtain ⟨p, hp, e⟩ := List.mem_map.1 h
    cases e
    exact ⟨p.2, hp, rfl⟩
  refine { hI with len := hI.len, tm := fun t => ?_, nd := fun nm n h => ?_, dom := fun nm h => ?_, uniq := ?_, sep := ?_, own := ?_, obj := ?_, rw_ := ?_ }
  · cases t with
    | zero => exact trimV2 (hI.tm 0) h1 hf1
    | succ t => exact .undef _
  · obtain ⟨n0, hn0, rfl⟩ := hmem h
    have hr := hI.nd nm n0 hn0
    cases n0 with
    | iter t p =>
      obtain ⟨b, g1, g2⟩ := hr
      obtain ⟨n', k1, k2, _⟩ := trimφ_at (f := f) (ns := ns) g1
      have : n' = 0 := by omega
      subst this
      exact ⟨b, k1, g2⟩
    | dead => exact trimφ_dead hr
    | obj cs =>
      obtain ⟨b, g1, g2, g3, g4, g5⟩ := hr
      obtain ⟨n', k1, k2, _⟩ := trimφ_at (f := f) (ns := ns) g1
      have : n' = 0 := by omega
      subst this
      refine ⟨b, k1, g2, g3, g4, fun j c hc => ?_⟩
      obtain ⟨u, hu, hur⟩ := g5 j c hc
      have hcm := List.mem_of_getElem? hc
      exact ⟨u, hu, trimV0 hur (List.all_eq_true.1 (noBN_mem h2 nm cs hn0) c hcm) (fun m n hm => hf2 m n (refsN_mem hn0 hcm hm))⟩
    | row fz sh xs =>
      obtain ⟨g0, blk, g1, g2, g3⟩ := hr
      have hfd := mem_find hI.uniq hn0
      cases e : f nm with
      | nil =>
        refine ⟨g0, blk, ?_, g2, g3⟩
        unfold trimφ
        rw [g1]
        have hfd' : find nm ns = some (.row fz sh xs) := hfd
        simp only [hfd', e]
      | cons x l =>
        have ht : trim1 (x :: l) (.row fz sh xs) = .row fz sh (xs.take (maxL (x :: l))) := by cases l <;> rfl
        rw [ht]
        show 0 < szOf sh ∧ ∃ blk, trimφ φ ns f nm = .at_ blk (xs.take (maxL (x :: l))).length ∧ _
        refine ⟨g0, blk, ?_, fun hb => by rw [g2 hb]; simp, fun b hb => ?_⟩
        · unfold trimφ
          rw [g1]
          have hfd' : find nm ns = some (.row fz sh xs) := hfd
          simp only [hfd', e, List.length_take]
        · obtain ⟨k1, k2, k3, k4⟩ := g3 b hb
          refine ⟨k1, k2, Nat.le_trans (Nat.mul_le_mul_right _ (by rw [List.length_take]; exact Nat.min_le_right _ _)) k3, fun i y hy => ?_⟩
          rw [List.getElem?_take] at hy
          split at hy
          · exact k4 i y hy
          · cases hy
  · have : φ nm ≠ .absent := fun e => h (by unfold trimφ; rw [e])
    obtain ⟨n, hn⟩ := hI.dom nm this
    exact ⟨_, List.mem_map.2 ⟨_, hn, rfl⟩⟩
  · have : (trimAll f ns).map (·.1) = ns.map (·.1) := by simp [trimAll]
    show ((trimAll f ns).map (·.1)).Nodup
    rw [this]; exact hI.uniq
  · intro nm n nm' n' b k k' h h' ho ho' e e'
    obtain ⟨n0, hn0, rfl⟩ := hmem h
    obtain ⟨n1, hn1, rfl⟩ := hmem h'
    rw [trim1_own] at ho ho'
    obtain ⟨q, hq⟩ := trimφ_of e
    obtain ⟨q', hq'⟩ := trimφ_of e'
    exact hI.sep nm n0 nm' n1 b q q' hn0 hn1 ho ho' hq hq'
  · intro nm n b k h ho e
    obtain ⟨n0, hn0, rfl⟩ := hmem h
    rw [trim1_own] at ho
    obtain ⟨q, hq⟩ := trimφ_of e
    exact hI.own nm n0 b q hn0 ho hq
  · intro nm cs b k h e
    obtain ⟨n0, hn0, e0⟩ := hmem h
    cases n0 with
    | row fz sh xs =>
      cases hl : f nm with
      | nil => rw [hl] at e0; cases e0
      | cons x l => rw [hl] at e0; cases l <;> cases e0
    | iter => cases e0
    | dead => cases e0
    | obj ds =>
      obtain ⟨k', hk'⟩ := hI.obj nm ds b k hn0 e
      obtain ⟨n', h1, _⟩ := trimφ_at (f := f) (ns := ns) hk'
      exact ⟨n', h1⟩
  · intro r fz sh xs h h1 h2
    obtain ⟨n0, hn0, e0⟩ := hmem h
    have hfr : f [r] = [] := hf3 r h1 h2
    rw [hfr] at e0
    have e1 : n0 = .row fz sh xs := by
      cases n0 <;> simpa [trim1] using e0.symm
    subst e1
    have h3 := hI.rw_ r fz sh xs hn0 h1 h2
    unfold trimφ
    rw [h3]
    split
    · next b n e =>
      rw [hfr]
      split
      · next hh => cases hh
      · exact e.symm
    · rfl
theorem noBN_trim {f : Nm → List Nat} : ∀ {ns : Nodes}, noBN ns = true → noBN (trimAll f ns) = true
  | [], _ => rfl
  | (m, .obj cs) :: l, h => by
    have h' : (cs.all noB0 && noBN l) = true := h
    rw [Bool.and_eq_true] at h'
    show (cs.all noB0 && noBN (trimAll f l)) = true
    rw [h'.1, noBN_trim h'.2]; rfl
  | (m, .row fz sh xs) :: l, h => by
    have := noBN_trim (f := f) (ns := l) h
    show noBN ((m, trim1 (f m) (.row fz sh xs)) :: trimAll f l) = true
    cases e : f m with
    | nil => exact this
    | cons a l => cases l <;> exact this
  | (m, .iter _ _) :: l, h => noBN_trim (ns := l) h
  | (m, .dead) :: l, h => noBN_trim (ns := l) h
theorem okNm_last : ∀ (l : Nm), okNm (l ++ [2000]) = true
  | [] => rfl
  | [a] => rfl
  | a :: b :: l => rfl
theorem outR0_last {tgt : Nm} {a : AVal} : ∀ p ∈ outR0 tgt a, ∃ l, p.2 = l ++ tgt := fun p hp => by
  cases a with
  | osl nm sh off len => simp [outR0] at hp; exact ⟨[], by rw [hp]; rfl⟩
  | ptr nm sz i j =>
    have hp : p ∈ (bif handed nm then [] else [(nm, tgt)] : List (Nm × Nm)) := hp
    cases e : handed nm with
    | true => rw [e] at hp; cases hp
    | false => rw [e] at hp; rw [List.mem_singleton.1 hp]; exact ⟨[], rfl⟩
  | _ => cases hp
theorem outRL_last {f : Nm → AVal → List (Nm × Nm)} (hf : ∀ tgt a, ∀ p ∈ f tgt a, ∃ l, p.2 = l ++ tgt) {tgt : Nm} : ∀ (as : List AVal) (j : Nat), ∀ p ∈ outRL f tgt j as, ∃ l, p.2 = l ++ tgt
  | [], j, p, hp => by simp [outRL] at hp
  | a :: as, j, p, hp => by
    rcases List.mem_append.1 hp with hp | hp
    · obtain ⟨l, hl⟩ := hf _ _ p hp
      exact ⟨l ++ [j], by rw [hl]; simp⟩
    · exact outRL_last hf as (j + 1) p hp
theorem outR1_last {tgt : Nm} {a : AVal} : ∀ p ∈ outR1 tgt a, ∃ l, p.2 = l ++ tgt := fun p hp => by
  cases a with
  | agg cs => exact outRL_last (fun tgt a => outR0_last) cs 0 p hp
  | v c => exact outR0_last (a := (.v c)) p hp
  | sl p' sh xs => exact outR0_last (a := (.sl p' sh xs)) p hp
  | nil0 sh => exact outR0_last (a := (.nil0 sh)) p hp
  | osl nm sh off len => exact outR0_last (a := (.osl nm sh off len)) p hp
  | ptr nm sz i j => exact outR0_last (a := (.ptr nm sz i j)) p hp
  | bptr sh x j => exact outR0_last (a := (.bptr sh x j)) p hp
  | tup l => exact outR0_last (a := (.tup l)) p hp
  | fn g l => exact outR0_last (a := (.fn g l)) p hp
  | undef  => exact outR0_last (a := .undef) p hp
theorem outR_last {tgt : Nm} {a : AVal} : ∀ p ∈ outR tgt a, ∃ l, p.2 = l ++ tgt := fun p hp => by
  cases a with
  | tup cs => exact outRL_last (fun tgt a => outR1_last) cs 0 p hp
  | v c => exact outR1_last (a := (.v c)) p hp
  | sl p' sh xs => exact outR1_last (a := (.sl p' sh xs)) p hp
  | nil0 sh => exact outR1_last (a := (.nil0 sh)) p hp
  | osl nm sh off len => exact outR1_last (a := (.osl nm sh off len)) p hp
  | ptr nm sz i j => exact outR1_last (a := (.ptr nm sz i j)) p hp
  | bptr sh x j => exact outR1_last (a := (.bptr sh x j)) p hp
  | fn g l => exact outR1_last (a := (.fn g l)) p hp
  | undef  => exact outR1_last (a := .undef) p hp
  | agg l => exact outR1_last (a := (.agg l)) p hp
theorem reroot_form : ∀ {rs : List (Nm × Nm)} {m c : Nm}, reroot rs m = .to c → ∃ p ∈ rs, ∃ q, c = canonP q ++ p.2
  | [], _, _, h => by cases h
  | (r, r') :: l, m, c, h => by
    unfold reroot at h
    split at h
    · next p e => cases h; exact ⟨(r, r'), List.mem_cons_self, p, rfl⟩
    · obtain ⟨p, hp, q, hq⟩ := reroot_form h
      exact ⟨p, List.mem_cons_of_mem _ hp, q, hq⟩
theorem outS_ok {ns : Nodes} {rv : AVal} {m m' : Nm} (h : outS ns (outR [2000] rv) m = .to m') : m' = m ∨ okNm m' = true := by
  unfold outS at h
  split at h
  · cases h
  · split at h
    · next c e =>
      cases h
      obtain ⟨p, hp, q, hq⟩ := reroot_form e
      obtain ⟨l, hl⟩ := outR_last p hp
      right
      rw [hq, hl, ← List.append_assoc]
      exact okNm_last _
    · cases hb : Nat.ble 1000 (m.getLastD 0) with
      | true => rw [hb] at h; cases h; exact canon_ok m
      | false => rw [hb] at h; cases h
theorem mkOut_sound (hFr : FrOk fr) (hI : Inv fr φ F s a w) {rv : AVal} {v : Value} {o : Out} (h : mkOut s rv = some o) (hv : VRel w φ F fr.B rv v) :
    noB o.rv = true ∧ noBN o.nodes = true ∧ ∃ φ', Inv fr φ' F ⟨[o.rv], o.nodes⟩ ⟨#[v], []⟩ w := by
  unfold mkOut at h
  obtain ⟨h1, h2⟩ := grd_some h
  cases h2
  rw [Bool.and_eq_true, Bool.and_eq_true, Bool.and_eq_true] at h1
  obtain ⟨⟨⟨h1, h2⟩, h3⟩, h4⟩ := h1
  have hnb := noBN_trim (f := fun nm => bif okNm nm then refs2 nm (rv.ren (outS s.nodes (outR [2000] rv))) ++ refsN nm (sortN (renN (outS s.nodes (outR [2000] rv)) s.nodes)) else []) h2
  refine ⟨h1, hnb, ?_⟩
  have hI1 : Inv fr φ F ⟨[rv], s.nodes⟩ ⟨#[v], []⟩ w := hI.tmps (l := [rv]) (vs := [v]) (VRelL.cons.2 ⟨hv, VRelL.nil⟩)
  obtain ⟨φ', hI2, _⟩ := hI1.ren (outS s.nodes (outR [2000] rv)) (sortN_nodup.1 (nodupN_iff.1 h3)) (fun m m' cs hm e => by
    rcases outFix_mem h4 m m' cs hm e with h | h
    · exact .inl h
    · refine .inr ?_
      rcases Classical.em (fr.φ0 m' = .absent) with h' | h'
      · exact h'
      · have := (hFr.nm m' h').2; omega) (fun m m' e => outS_ok e)
  have hb : ∀ (nm : Nm) (l : List Nat) (n : Nat), n ∈ l → (bif okNm nm then l else []) = [] ∨ n ∈ (bif okNm nm then l else []) := fun nm l n hm => by
    cases okNm nm with
    | true => exact .inr hm
    | false => exact .inl rfl
  exact ⟨_, (hI2.perm (sortN_perm _)).trim (f := fun nm => bif okNm nm then refs2 nm (rv.ren (outS s.nodes (outR [2000] rv))) ++ refsN nm (sortN (renN (outS s.nodes (outR [2000] rv)) s.nodes)) else []) h1 h2 (fun nm n hm => hb nm _ n (List.mem_append_left _ hm)) (fun nm n hm => hb nm _ n (List.mem_append_right _ hm)) (fun r h1 h2 => by
    have : okNm [r] = false := by
      cases e : okNm [r] with
      | false => rfl
      | true => rcases okNm_one e with h | h <;> omega
    simp only [this, cond_false])⟩
theorem evLoad_as (hT : TabOk T P) (hO : NoOther T) (hI : Inv fr φ F s a w) {t : Nat} {x : AVal} {vx : Value} {K : AVal → Option X} (h : evLoad T s.nodes t x K = some out) (hx : VRel w φ F fr.B x vx) :
    ∃ z v, K z = some out ∧ VRel w φ F fr.B z v ∧ ((do loadVar t (← asAddr vx) : Sem Value)).run P w = .ok v w := by
  obtain ⟨z, v, h1, h2, h3⟩ := evLoad_sound hT hO hI h hx
  refine ⟨z, v, h1, h2, ?_⟩
  unfold evLoad evLoad0 at h
  split at h
  · cases hx with
    | ptrD _ A => exact h3
    | ptr _ => exact h3
  · cases hx with
    | bptr _ _ => exact h3
  · cases h
def resSem (tmps : Array Value) : ResultVar → Sem Value
  | .tmp t => pure (tmps.getD t undef)
  | .cell a t => do loadVar t (← asAddr (tmps.getD a undef))
theorem resL_sound (hT : TabOk T P) (hO : NoOther T) (hI : Inv fr φ F s a w) : ∀ (rs : List ResultVar) {K : List AVal → Option X}, resL T s rs K = some out →
    ∃ zs vs, K zs = some out ∧ VRelL w φ F fr.B zs vs ∧ (rs.mapM (resSem a.tmps)).run P w = .ok vs w
  | [], K, h => ⟨[], [], h, VRelL.nil, by simp⟩
  | .tmp t :: l, K, h => by
    unfold resL at h
    obtain ⟨zs, vs, h1, h2, h3⟩ := resL_sound hT hO hI l h
    exact ⟨_, _, h1, VRelL.cons.2 ⟨hI.tm t, h2⟩, by simp [resSem, h3]⟩
  | .cell b t :: l, K, h => by
    unfold resL at h
    obtain ⟨z, v, g1, g2, g3⟩ := evLoad_as hT hO hI h (hI.tm b)
    obtain ⟨zs, vs, h1, h2, h3⟩ := resL_sound hT hO hI l g1
    refine ⟨_, _, h1, VRelL.cons.2 ⟨g2, h2⟩, ?_⟩
    rw [List.mapM_cons]
    show (Sem.run P (resSem a.tmps (.cell b t) >>= fun x => List.mapM (resSem a.tmps) l >>= fun xs => pure (x :: xs)) w) = _
    rw [Sem.run_bind]
    have : (resSem a.tmps (.cell b t)).run P w = .ok v w := g3
    rw [this]
    simp [h3]
theorem mkOutW_sound (hFr : FrOk fr) (hI : Inv fr φ F s a w) {ws : List Wk} {rv : AVal} {v : Value} {o : Out} (h : mkOutW ws s rv = some o) (hv : VRel w φ F fr.B rv v) :
    noB o.rv = true ∧ noBN o.nodes = true ∧ ∃ φ' F', Inv fr φ' F' ⟨[o.rv], o.nodes⟩ ⟨#[v], []⟩ w := by
  unfold mkOutW at h
  obtain ⟨φ1, F1, s1, h1, hI1⟩ := wkAll_sound ws (hI.tmps (l := [rv]) (vs := [v]) (VRelL.cons.2 ⟨hv, VRelL.nil⟩)) h
  obtain ⟨k1, k2, φ2, k3⟩ := mkOut_sound hFr hI1 h1 (hI1.tm 0)
  exact ⟨k1, k2, φ2, F1, k3⟩
theorem evRet_sound (hT : TabOk cx.T P) (hO : NoOther cx.T) (hFr : FrOk fr) (hI : Inv fr φ F s a w) {fn : Func} {ws : List Wk} {o : Out} (h : evRet cx.T ws fn.results.toList s = some o) :
    noB o.rv = true ∧ noBN o.nodes = true ∧ ∃ v, (results fn a.tmps).run P w = .ok v w ∧ ∃ φ' F', Inv fr φ' F' ⟨[o.rv], o.nodes⟩ ⟨#[v], []⟩ w := by
  unfold evRet at h
  obtain ⟨zs, vs, h1, h2, h3⟩ := resL_sound hT hO hI _ h
  have hr : (results fn a.tmps).run P w = .ok (if h : vs.toArray.size = 1 then vs.toArray[0] else .tuple vs.toArray) w := by
    have e : results fn a.tmps = (fn.results.mapM (resSem a.tmps) >>= fun vs => pure (if h : vs.size = 1 then vs[0] else .tuple vs)) := rfl
    rw [e, Array.mapM_eq_mapM_toList]
    simp [h3]
  split at h1
  · next z =>
    obtain ⟨v, vs', rfl, g1, g2⟩ := h2.cons_inv
    have : vs' = [] := List.eq_nil_of_length_eq_zero g2.1.symm
    subst this
    obtain ⟨k1, k2, φ', F', k3⟩ := mkOutW_sound hFr hI h1 g1
    exact ⟨k1, k2, v, by simpa using hr, φ', F', k3⟩
  · next hne =>
    have hs : vs.toArray.size ≠ 1 := fun hs => by
      have hl : zs.length = 1 := by rw [h2.1]; simpa using hs
      obtain ⟨z, rfl⟩ := List.length_eq_one_iff.1 hl
      exact hne z rfl
    rw [dif_neg hs] at hr
    obtain ⟨k1, k2, φ', F', k3⟩ := mkOutW_sound hFr hI h1 (VRel.tup h2.1 h2.2)
    exact ⟨k1, k2, _, hr, φ', F', k3⟩
theorem padT_eq : ∀ (l : List AVal) (n : Nat), padT n l = l ++ List.replicate (n - l.length) (.tup [])
  | [], n => rfl
  | a :: l, n => by
    rw [padT, padT_eq l (n - 1), List.length_cons, Nat.sub_sub, Nat.add_comm 1, List.cons_append]
/-- What the evaluator computes of a function, its calls answer. -/
theorem evFn_ok0 (hT : TabOk cx.T P) (hO : NoOther cx.T) (hC : FnsOk P cx) (hD : DrawsOk P cx) (hm : P.follows .mixedOrders = true) {g : FuncId} {fn : Func} {c : Code} (hf : P.funcs[g]? = some fn) (hb : fn.body = some c) {ws : List Wk} {fuel : Nat} {args : List AVal} {ns : Nodes} {o : Out}
    (h : evFn cx ws fuel fn.ntmps fn.results.toList c args ns some = some o) (hB : noB o.rv = true ∧ noBN o.nodes = true) : FnOk P g args ns o := by
  refine ⟨hB.1, hB.2, fun fr φ F w vs hw hFr hI => ?_⟩
  refine calls_of_wp hf hb ?_
  have hl : args.length = vs.length := by simpa using hI.len
  have hI' : Inv fr φ F ⟨padT fn.ntmps args, ns⟩ ⟨vs.toArray ++ Array.replicate (fn.ntmps - vs.toArray.size) undef, []⟩ w := by
    have : vs.toArray ++ Array.replicate (fn.ntmps - vs.toArray.size) undef = (vs ++ List.replicate (fn.ntmps - vs.length) undef).toArray := by simp
    rw [this, padT_eq]
    refine hI.tmps (VRelL.append ⟨hl, fun j c v hc hv => ?_⟩ ⟨by simp [hl], fun j c v hc hv => ?_⟩)
    · have := hI.tm j
      rw [Array.getD_eq_getD_getElem?] at this
      simp only [List.getElem?_toArray, hv, Option.getD_some] at this
      have hj := (List.getElem?_eq_some_iff.1 hc).1
      have e := nth_get hj
      rw [hc] at e
      cases e
      exact this
    · simp only [List.getElem?_replicate] at hc hv
      split at hc
      · cases hc
        split at hv
        · cases hv
          exact .tup rfl (fun j c v hc => by simp at hc)
        · cases hv
      · cases hc
  have key : ∀ φ' F' s' a' w', Option.bind (evRet cx.T ws fn.results.toList s') some = some o → Inv fr φ' F' s' a' w' → bodyPost P fn (fun e w' => ∃ v, e = .returned v ∧ ∃ φ' F', Inv fr φ' F' ⟨[o.rv], o.nodes⟩ ⟨#[v], []⟩ w') .ret a' w' := fun φ' F' s' a' w' h' hI' => by
    obtain ⟨o', h'', e⟩ := bind_some h'
    cases e
    obtain ⟨_, _, v, h1, φ2, F2, h2⟩ := evRet_sound hT hO hFr hI' h''
    exact ⟨hI'.defers, v, h1, v, rfl, φ2, F2, h2⟩
  exact evCode_sound hT hO hC hFr hD hm fuel c _ _ _ _ _ φ F _ w h hI' (fun φ' F' s' a' w' h' hI' => key φ' F' s' a' w' h' hI') (fun id φ' F' s' a' w' h' hI' => by cases h') (fun φ' F' s' a' w' h' hI' => key φ' F' s' a' w' h' hI')
end
end Go.Proofs.YtlaojkheenobaaaDoorS
