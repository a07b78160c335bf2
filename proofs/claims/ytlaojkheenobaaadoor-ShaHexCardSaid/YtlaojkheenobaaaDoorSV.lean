/- Rows that are only read from here on; closed values. -/
import Derived.Test.YtlaojkheenobaaaDoorSU
namespace Go.Proofs.YtlaojkheenobaaaDoorS
open Go Go.RowKit
set_option linter.unusedVariables false
set_option linter.unusedSimpArgs false
section
variable {X : Type} {P : Program} {T : Tab} {fr : Fr} {φ φ' : Nm → Loc} {F F' B : Nat → Prop} {s : St} {a : Act} {w w' : World} {out : X}
/-- The block of a name. -/
def BlkOf (φ : Nm → Loc) (nm : Nm) (k : Nat) : Prop := ∃ n, φ nm = .at_ (some k) n
theorem szOf_ne {sh : Option Nat} (h : 0 < szOf sh) : sh ≠ some 0 := fun e => by subst e; exact absurd h (by decide)
theorem deSh_ne {sh : Option Nat} (h : sh ≠ some 0) : deSh sh = sh := by
  cases sh with
  | none => rfl
  | some k => cases k with
    | zero => exact absurd rfl h
    | succ k => rfl
theorem osC_spec (hI : Inv fr φ F s a w) {nm : Nm} {sh : Option Nat} {off len : Nat} {fz : Bool} {ys : List CV} (h : osC s.nodes nm sh off len = some (fz, ys)) {v : Value} (hv : VRel w φ F B (.osl nm sh off len) v) :
    RowRel w F (BlkOf φ nm) (deSh sh) ys v ∧ (fz = true → ∀ k, BlkOf φ nm k → F k) ∧ ∃ xs, find nm s.nodes = some (.row fz (deSh sh) xs) ∧ ys = (xs.drop off).take len := by
  unfold osC at h
  split at h
  · next fz' sh' xs hf =>
    cases e : shEq (deSh sh) sh' with
    | false => rw [e] at h; cases h
    | true =>
      rw [e] at h
      have := shEq_iff e
      subst this
      cases h
      obtain ⟨h0, blk, h1, h2, h3⟩ := hI.nd nm _ (find_mem hf)
      refine ⟨?_, fun hz k ⟨n, hk⟩ => ?_, xs, hf, rfl⟩
      · cases hv with
        | oslD hd => rw [h1] at hd; cases hd
        | osl hp ho =>
          rw [h1] at hp
          cases hp
          rcases ho with ⟨A, rfl, rfl, hn⟩ | ⟨b, cap, rfl, rfl, g1, g2, g3, g4⟩ | ⟨rfl, A, cap, rfl, g1, g2, g3⟩
          · exact ⟨A, 0, by simp, by simp, fun h => by simp at h⟩
          rotate_left
          · have hl : ((xs.drop off).take len).length = len := by rw [List.length_take, List.length_drop]; omega
            refine ⟨A, cap, by rw [hl], by rw [hl]; omega, fun hp => ?_⟩
            obtain ⟨b, rfl, rfl⟩ := g3 (by rw [hl] at hp; omega)
            obtain ⟨_, _, _, he⟩ := h3 b rfl
            refine ⟨b, off, rfl, ⟨_, h1⟩, fun i x hx => ?_⟩
            obtain ⟨hx, _⟩ := slice_get _ _ _ _ _ hx
            have := he _ _ hx
            rwa [show szOf (deSh (some 0)) = 1 from rfl, Nat.mul_one] at this ⊢
          · have hde : deSh sh = sh := deSh_ne g4
            rw [hde] at h3 ⊢
            obtain ⟨_, _, _, he⟩ := h3 b rfl
            have hl : ((xs.drop off).take len).length = len := by rw [List.length_take, List.length_drop]; omega
            refine ⟨_, cap, by rw [hl], by rw [hl]; omega, fun _ => ⟨b, _, rfl, ⟨_, h1⟩, fun i x hx => ?_⟩⟩
            obtain ⟨hx, _⟩ := slice_get _ _ _ _ _ hx
            have := he _ _ hx
            rwa [Nat.add_mul] at this
      · rw [h1] at hk
        cases hk
        exact (h3 k rfl).2.1 hz
  · cases h
theorem find_upd_ne {nm m : Nm} {N : Node} (h : m ≠ nm) : ∀ l : Nodes, find m (upd nm N l) = find m l
  | [] => rfl
  | (q, k) :: l => by
    unfold upd
    cases e : nmEq q nm with
    | true =>
      have e' := nmEq_iff.1 e
      subst e'
      simp only [cond_true, find, nmEq_ne h.symm, cond_false]
    | false => simp only [cond_false, find, find_upd_ne h l]
theorem find_upd_self {nm : Nm} {N n : Node} : ∀ {l : Nodes}, find nm l = some n → find nm (upd nm N l) = some N
  | [], h => by cases h
  | (q, k) :: l, h => by
    unfold upd
    unfold find at h
    cases e : nmEq q nm with
    | true => simp only [cond_true, find, e]
    | false =>
      rw [e] at h
      simp only [cond_false, find, e]
      exact find_upd_self h
/-- A list of rows is only read from here on. -/
theorem frzN_sound : ∀ (l : List Nm) {F : Nat → Prop} {s : St}, Inv fr φ F s a w →
    ∃ F', Inv fr φ F' ⟨s.tmps, frzN l s.nodes⟩ a w ∧ (∀ k, F k → F' k) ∧ (∀ nm ∈ l, ∀ fz sh xs, find nm s.nodes = some (.row fz sh xs) → ∀ k, BlkOf φ nm k → F' k) ∧
      (∀ nm, find nm (frzN l s.nodes) = find nm s.nodes ∨ (nm ∈ l ∧ ∃ sh xs, find nm s.nodes = some (.row false sh xs) ∧ find nm (frzN l s.nodes) = some (.row true sh xs)))
  | [], F, s, hI => ⟨F, hI, fun _ h => h, fun nm h => by simp at h, fun nm => .inl rfl⟩
  | nm :: l, F, s, hI => by
    unfold frzN
    split
    · next sh xs hf =>
      obtain ⟨F1, hI1, hF1, hb1⟩ := hI.freeze hf
      obtain ⟨F2, hI2, hF2, hb2, hc2⟩ := frzN_sound l hI1
      refine ⟨F2, hI2, fun k hk => hF2 k (hF1 k hk), fun m hm fz sh' xs' hfm k hk => ?_, fun m => ?_⟩
      · by_cases e : m = nm
        · subst e
          obtain ⟨n, hk⟩ := hk
          exact hF2 k (hb1 k n hk)
        · rcases List.mem_cons.1 hm with h | h
          · exact absurd h e
          · exact hb2 m h fz sh' xs' (by show find m (upd nm _ s.nodes) = _; rw [find_upd_ne e]; exact hfm) k hk
      · by_cases e : m = nm
        · subst e
          have hself : find m (s.setN m (.row true sh xs)).nodes = some (.row true sh xs) := find_upd_self hf
          rcases hc2 m with h | ⟨_, sh', xs', h, _⟩
          · exact .inr ⟨List.mem_cons_self, sh, xs, hf, h.trans hself⟩
          · rw [hself] at h; cases h
        · have hne : find m (s.setN nm (.row true sh xs)).nodes = find m s.nodes := find_upd_ne e _
          rcases hc2 m with h | ⟨hm, sh', xs', h, h'⟩
          · exact .inl (h.trans hne)
          · exact .inr ⟨List.mem_cons_of_mem _ hm, sh', xs', hne ▸ h, h'⟩
    · next hno =>
      obtain ⟨F2, hI2, hF2, hb2, hc2⟩ := frzN_sound l hI
      refine ⟨F2, hI2, hF2, fun m hm fz sh xs hfm k hk => ?_, fun m => ?_⟩
      · rcases List.mem_cons.1 hm with rfl | h
        · cases fz with
          | false => exact absurd hfm (hno sh xs)
          | true =>
            obtain ⟨_, blk, h1, _, h3⟩ := hI.nd m _ (find_mem hfm)
            obtain ⟨n, hk⟩ := hk
            rw [h1] at hk
            cases hk
            exact hF2 k ((h3 k rfl).2.1 rfl)
        · exact hb2 m h fz sh xs hfm k hk
      · rcases hc2 m with h | ⟨hm, h⟩
        · exact .inl h
        · exact .inr ⟨List.mem_cons_of_mem _ hm, h⟩
theorem closed0_spec (hI : Inv fr φ F s a w) (hF : ∀ k, F k → F' k) {x : AVal} {c : CV} {v : Value} (h : closed0 s.nodes x = some c) (hx : VRel w φ F B x v)
    (hb : ∀ nm ∈ x.lv0, ∀ fz sh xs, find nm s.nodes = some (.row fz sh xs) → ∀ k, BlkOf φ nm k → F' k) : CRel w F' c v := by
  unfold closed0 at h
  split at h
  · cases h; cases hx with | v h => exact h.mono hF (fun _ _ => rfl)
  · cases h
    cases hx with
    | sl h => exact (h.mono (F' := F') (G' := F') hF (fun k hk => hF k (hk.elim id (fun h => absurd h.1 (by simp)))) (fun _ _ => rfl) (fun _ _ => rfl)).toC
  · cases h; cases hx with | nil0 A => exact .slc0 _ _ _
  · next nm sh off len =>
    split at h
    · next fz ys e =>
      cases h
      obtain ⟨hr, _, xs, hf, _⟩ := osC_spec hI e hx
      exact (hr.mono (F' := F') (G' := F') hF (fun k hk => hb nm (by simp [AVal.lv0]) _ _ _ hf k hk) (fun _ _ => rfl) (fun _ _ => rfl)).toC
    · cases h
  · cases h
theorem closedL_spec (hI : Inv fr φ F s a w) (hF : ∀ k, F k → F' k) : ∀ {xs : List AVal} {cs : List CV} {vs : List Value}, closedL s.nodes xs = some cs → VRelL w φ F B xs vs → (∀ c ∈ xs, c.cellOk) →
    (∀ nm ∈ xs.flatMap (·.lv0), ∀ fz sh ys, find nm s.nodes = some (.row fz sh ys) → ∀ k, BlkOf φ nm k → F' k) → cs.length = vs.length ∧ (∀ c ∈ cs, c.isAgg = false) ∧ ∀ (j : Nat) c v, cs[j]? = some c → vs[j]? = some v → CRel w F' c v
  | [], cs, vs, h, hx, _, _ => by
    cases h
    have : vs = [] := List.eq_nil_of_length_eq_zero hx.1.symm
    subst this
    exact ⟨rfl, fun c hc => by simp at hc, fun j c v hc => by simp at hc⟩
  | x :: xs, cs, vs, h, hx, ho, hb => by
    unfold closedL at h
    split at h
    · next c e =>
      split at h
      · next cs' e' =>
        cases h
        obtain ⟨v, vs', rfl, h1, h2⟩ := hx.cons_inv
        obtain ⟨g1, g2, g3⟩ := closedL_spec hI hF e' h2 (fun c hc => ho c (List.mem_cons_of_mem _ hc)) (fun nm hm => hb nm (by rw [List.flatMap_cons]; exact List.mem_append_right _ hm))
        refine ⟨by simp [g1], fun c' hc => ?_, fun j c' v' hc hv => ?_⟩
        · rcases List.mem_cons.1 hc with rfl | hc
          · have hox := ho x List.mem_cons_self
            cases x with
            | v c0 => cases e; exact hox
            | sl p sh ys => cases p <;> cases e; rfl
            | nil0 sh => cases e; rfl
            | osl nm sh off len =>
              simp only [closed0] at e
              split at e
              · cases e; rfl
              · cases e
            | _ => cases e
          · exact g2 c' hc
        · cases j with
          | zero => simp at hc hv; subst hc hv; exact closed0_spec hI hF e h1 (fun nm hm => hb nm (by rw [List.flatMap_cons]; exact List.mem_append_left _ hm))
          | succ j => exact g3 j c' v' (by simpa using hc) (by simpa using hv)
      · cases h
    · cases h
theorem closed_spec (hI : Inv fr φ F s a w) (hF : ∀ k, F k → F' k) {x : AVal} {c : CV} {v : Value} (h : closed s.nodes x = some c) (hx : VRel w φ F B x v)
    (hb : ∀ nm ∈ x.lv1, ∀ fz sh xs, find nm s.nodes = some (.row fz sh xs) → ∀ k, BlkOf φ nm k → F' k) : CRel w F' c v := by
  unfold closed at h
  split at h
  · next cs =>
    split at h
    · next ds e =>
      cases h
      cases hx with
      | agg hl ho hr =>
        obtain ⟨g1, g2, g3⟩ := closedL_spec hI hF e ⟨hl, hr⟩ ho hb
        exact .agg g1 g2 g3
    · cases h
  · next hno =>
    refine closed0_spec hI hF h hx (fun nm hm => hb nm ?_)
    cases x with
    | agg cs => exact absurd rfl (hno cs)
    | _ => exact hm
end
end Go.Proofs.YtlaojkheenobaaaDoorS
