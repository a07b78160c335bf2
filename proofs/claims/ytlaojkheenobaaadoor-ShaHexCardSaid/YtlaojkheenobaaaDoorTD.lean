/- Code, functions. -/
import Derived.Test.YtlaojkheenobaaaDoorTC
namespace Go.Proofs.YtlaojkheenobaaaDoorS
open Go Go.RowKit
set_option linter.unusedVariables false
set_option linter.unusedSimpArgs false
section
variable {X : Type} {P : Program} {cx : Cx} {fr : Fr} {φ φ' : Nm → Loc} {F F' B B' : Nat → Prop} {s : St} {a : Act} {w w' : World} {out : X} {Q : Exit → Act → World → Prop}
theorem Inv.skip (hI : Inv fr φ F s a w) (d : Option Tmp) : Inv fr φ F (s.put d (.tup [])) (a.put d undef) w := hI.put (.tup (cs := []) (vs := []) rfl (fun j c v hc => by simp at hc)) d
theorem yields_bool (hI : Inv fr φ F s a w) {ops : Array Oper} {j t : Nat} {b : Bool} (ht : (ops[j]?).bind (·.dst) = some t) (hb : nth s.tmps t = .v (.bool b)) : yielded ops a.tmps j = some b := by
  have := hI.tm t
  rw [hb] at this
  have hv := this.bool
  unfold yielded
  rw [ht]
  simp only [Option.bind_some]
  rw [Array.getD_eq_getD_getElem?] at hv
  cases e : a.tmps[t]? with
  | none => rw [e] at hv; cases hv
  | some v => rw [e] at hv; simp only [Option.getD_some] at hv; subst hv; rfl
theorem yields_none (hI : Inv fr φ F s a w) {ops : Array Oper} {j t : Nat} (ht : (ops[j]?).bind (·.dst) = some t) (hb : nth s.tmps t = .tup []) : yielded ops a.tmps j = none := by
  have := hI.tm t
  rw [hb] at this
  have hv : a.tmps.getD t undef = .tuple #[] := by
    generalize a.tmps.getD t undef = u at this
    cases this with
    | @tup _ vs hl hr =>
      have : vs = [] := List.eq_nil_of_length_eq_zero hl.symm
      subst this; rfl
  unfold yielded
  rw [ht]
  simp only [Option.bind_some]
  rw [Array.getD_eq_getD_getElem?] at hv
  cases e : a.tmps[t]? with
  | none => rfl
  | some v => rw [e] at hv; simp only [Option.getD_some] at hv; subst hv; rfl
/-- One operation with its guard. -/
def evG (cx : Cx) (ops : Array Oper) (s : St) (o : Oper) (K : St → Option X) : Option X := match o.guard with
  | none => evOp cx s o K
  | some (j, want) => match (ops[j]?).bind (·.dst) with
    | some t => match nth s.tmps t with
      | .v (.bool b) => bif (b == want) then evOp cx s o K else K (s.put o.dst (.tup []))
      | .tup [] => K (s.put o.dst (.tup []))
      | _ => none
    | none => none
theorem evG_sound (hT : TabOk cx.T P) (hO : NoOther cx.T) (hC : FnsOk P cx) (hFr : FrOk fr) (hI : Inv fr φ F s a w) {ops : Array Oper} {o : Oper} {i : Nat} (hi : ops[i]? = some o) {K : St → Option X} (h : evG cx ops s o K = some out) {next : Act → World → Prop}
    (hk : ∀ φ' F' s' a' w', K s' = some out → Inv fr φ' F' s' a' w' → next a' w') : wpOp P ops Q i next a w := by
  unfold wpOp
  rw [hi]
  simp only
  unfold evG at h
  split at h
  · next hg =>
    rw [if_pos (by simp only [Region.wanted, hg])]
    exact .inl (evOp_sound hT hO hC hFr hI h hk)
  · next j want hg =>
    split at h
    · next t ht =>
      split at h
      · next b hb =>
        have hy := yields_bool hI ht hb
        cases e : (b == want) with
        | true =>
          rw [e] at h
          rw [if_pos (by simp only [Region.wanted, hg, hy]; simpa using e)]
          exact .inl (evOp_sound hT hO hC hFr hI h hk)
        | false =>
          rw [e] at h
          rw [if_neg (by simp only [Region.wanted, hg, hy]; simpa using e)]
          exact hk _ _ _ _ _ h (hI.skip _)
      · next hb =>
        have hy := yields_none hI ht hb
        rw [if_neg (by simp only [Region.wanted, hg, hy]; simp)]
        exact hk _ _ _ _ _ h (hI.skip _)
      · cases h
    · cases h
/-- The names that an operation looks at and turns, with its guard. -/
def footG (cx : Cx) (ops : Array Oper) (s : St) (o : Oper) : Ft := match o.guard with
  | none => footOf cx s o
  | some (j, want) => match (ops[j]?).bind (·.dst) with
    | some t => match nth s.tmps t with
      | .v (.bool b) => bif (b == want) then footOf cx s o else noFt
      | _ => noFt
    | none => noFt
theorem evOps_cons {ops : Array Oper} {draw : Bool} {o : Oper} {l : List Oper} {fs : List (Nat × Oper × Ft)} {K : St → Option X} (h : evOps cx ops draw (o :: l) fs s K = some out) :
    evG cx ops s o (fun s' => evOps cx ops draw l ((fs.length, o, footG cx ops s o) :: fs) s' K) = some out := by
  unfold evOps at h
  split at h
  · next hg => unfold evG footG; simp only [hg]; exact h
  · next j want hg =>
    split at h
    · next t ht =>
      split at h
      · next b hb =>
        cases e : (b == want) with
        | true => rw [e] at h; unfold evG footG; simp only [hg, ht, hb, e]; exact h
        | false => rw [e] at h; unfold evG footG; simp only [hg, ht, hb, e]; exact h
      · next hb => unfold evG footG; simp only [hg, ht, hb]; exact h
      · cases h
    · cases h
theorem evOps_sound (hT : TabOk cx.T P) (hO : NoOther cx.T) (hC : FnsOk P cx) (hFr : FrOk fr) {ops : Array Oper} {K : St → Option X} (hk : ∀ φ' F' s' a' w', K s' = some out → Inv fr φ' F' s' a' w' → Q .normal a' w') :
    ∀ (l : List Oper) (is : List Nat) (fs : List (Nat × Oper × Ft)) {φ : Nm → Loc} {F : Nat → Prop} {s : St} {a : Act} {w : World}, l.length = is.length → (∀ (j : Nat) i, is[j]? = some i → ops[i]? = l[j]?) → evOps cx ops false l fs s K = some out → Inv fr φ F s a w → wpOps P ops Q is a w
  | [], is, fs, φ, F, s, a, w, hl, _, h, hI => by
    have : is = [] := List.eq_nil_of_length_eq_zero hl.symm
    subst this
    unfold evOps at h
    exact hk _ _ _ _ _ (grd_some h).2 hI
  | o :: l, [], fs, φ, F, s, a, w, hl, _, _, _ => by simp at hl
  | o :: l, i :: is, fs, φ, F, s, a, w, hl, hi, h, hI => by
    replace h := evOps_cons h
    rw [wpOps_cons]
    exact evG_sound hT hO hC hFr hI (hi 0 i rfl) h (fun φ' F' s' a' w' h' hI' =>
      evOps_sound hT hO hC hFr hk l is _ (by simpa using hl) (fun j i hj => by simpa using hi (j + 1) i (by simpa using hj)) h' hI')
theorem setn_self : ∀ {l : List AVal} {t : Nat}, setn l t (nth l t) = l
  | [], t => rfl
  | x :: l, 0 => rfl
  | x :: l, t + 1 => by simp [setn, nth, setn_self (l := l) (t := t)]
theorem evOpsR_eq {ops : Array Oper} {draw : Bool} : ∀ (l : List Oper) (fs : List (Nat × Oper × Ft)) (s : St) (K : St → Option X), evOpsR cx ops draw l fs s K = evOps cx ops draw l fs s K
  | [], fs, s, K => rfl
  | o :: l, fs, s, K => by
    unfold evOpsR evOps
    simp only [fcS_eq, evOpsR_eq l]
    split
    · rfl
    · rename_i j want hg
      split
      · rename_i t ht
        split
        · rename_i b hb
          clear hg
          have e : ∀ b', b = b' → (⟨setn s.tmps t (.v (.bool b')), s.nodes⟩ : St) = s := fun b' h => by rw [← h, ← hb, setn_self]
          cases b with
          | true => rw [e true rfl]; cases want <;> rfl
          | false => rw [e false rfl]; cases want <;> rfl
        · rfl
        · rfl
      · rfl
theorem keepT_nth (lv : List Nat) : ∀ (l : List AVal) (i t : Nat), nth (keepT lv i l) t = nth l t ∨ nth (keepT lv i l) t = .undef
  | [], i, t => .inl rfl
  | x :: l, i, 0 => by
    show (bif _ then x else AVal.undef) = x ∨ (bif _ then x else AVal.undef) = .undef
    cases lv.any (Nat.beq i) with
    | true => exact .inl rfl
    | false => exact .inr rfl
  | x :: l, i, t + 1 => keepT_nth lv l (i + 1) t
theorem keepT_length (lv : List Nat) : ∀ (l : List AVal) (i : Nat), (keepT lv i l).length = l.length
  | [], _ => rfl
  | x :: l, i => by simp [keepT, keepT_length lv l (i + 1)]
theorem Inv.keep (hI : Inv fr φ F s a w) (lv : List Nat) : Inv fr φ F ⟨keepT lv 0 s.tmps, s.nodes⟩ a w :=
  { hI with
    len := by show (keepT lv 0 s.tmps).length = _; rw [keepT_length]; exact hI.len
    tm := fun t => by
      show VRel w φ F fr.B (nth (keepT lv 0 s.tmps) t) _
      rcases keepT_nth lv s.tmps 0 t with h | h
      · rw [h]; exact hI.tm t
      · rw [h]; exact .undef _ }
theorem objFix_mem : ∀ {l : Nodes}, objFix l = true → ∀ m cs, (m, Node.obj cs) ∈ l → canon m = m
  | [], _, m, cs, h => by simp at h
  | (q, n) :: l, hs, m, cs, h => by
    cases n with
    | row fz sh xs =>
      rcases List.mem_cons.1 h with e | h
      · cases e
      · exact objFix_mem (l := l) hs m cs h
    | dead =>
      rcases List.mem_cons.1 h with e | h
      · cases e
      · exact objFix_mem (l := l) hs m cs h
    | iter =>
      rcases List.mem_cons.1 h with e | h
      · cases e
      · exact objFix_mem (l := l) hs m cs h
    | obj ds =>
      have hs' : (nmEq (canon q) q && objFix l) = true := hs
      rw [Bool.and_eq_true] at hs'
      rcases List.mem_cons.1 h with e | h
      · cases e; exact nmEq_iff.1 hs'.1
      · exact objFix_mem hs'.2 m cs h
theorem canon_ok : ∀ m : Nm, canon m = m ∨ okNm (canon m) = true
  | [] => .inl rfl
  | [r] => .inl rfl
  | j :: k :: l => .inr rfl
theorem wkLeaf_sound (hI : Inv fr φ F s a w) {nm : Option Nm} {x : AVal} {v : Value} {K : St → AVal → Option X} (h : wkLeaf nm s x K = some out) (hx : VRel w φ F fr.B x v) :
    ∃ φ' F' s' y, K s' y = some out ∧ Inv fr φ' F' s' a w ∧ VRel w φ' F' fr.B y v ∧ (x.cellOk → y.cellOk) ∧ ∀ z u, VRel w φ F fr.B z u → VRel w φ' F' fr.B z u := by
  unfold wkLeaf at h
  split at h
  · next sh nm =>
    obtain ⟨h0, h⟩ := grd_some h
    rw [Bool.and_eq_true] at h0
    obtain ⟨h0, h0n⟩ := h0
    have h0 : 0 < szOf sh := Nat.le_of_ble_eq_true h0
    obtain ⟨hn, h⟩ := new_some h
    obtain ⟨φ1, hI1, hloc, _, hφ1⟩ := hI.new hn (.row false sh []) (.at_ none 0) (T := fun _ => False) (Stp.refl _ _) (fun _ hf _ => hf.elim) (fun b k e => by cases e) (fun cs b k e => by cases e)
      (fun φ' _ hself _ => ⟨h0, none, hself, (fun _ => rfl), (fun b e => by cases e)⟩) h0n
    cases hx with
    | nil0 A => exact ⟨φ1, F, _, _, h, hI1.perm (insN_perm _ _), .osl hloc (.inl ⟨A, rfl, rfl, Nat.zero_le _⟩), fun _ => trivial, fun z u hz => hz.mono (Keeps.refl F fr.B w) hφ1 (fun _ h => h) (fun _ h => .inl h)⟩
  · cases hx with
    | nil0 A => exact ⟨φ, F, _, _, h, hI, .sl ⟨A, 0, rfl, Nat.le_refl _, fun h => absurd h (Nat.lt_irrefl _)⟩, fun _ => trivial, fun z u hz => hz⟩
  · next nm sh off len =>
    split at h
    · next fz ys e =>
      obtain ⟨hr, hz, xs, hf, _⟩ := osC_spec hI e hx
      obtain ⟨F1, hI1, hFF, hb, _⟩ := frzN_sound [nm] hI
      refine ⟨φ, F1, _, _, h, hI1, .sl (hr.mono (F' := F1) hFF (fun k hk => .inl (hb nm List.mem_cons_self _ _ _ hf k hk)) (fun _ _ => rfl) (fun _ _ => rfl)), fun _ => trivial, fun z u hz => hz.mono (Keeps.refl F fr.B w) (Phi.refl φ) hFF (fun _ h => .inl h)⟩
    · cases h
  · exact ⟨φ, F, _, _, h, hI, hx, fun h => h, fun z u hz => hz⟩
theorem set_rel {φ φ' : Nm → Loc} {F F' B : Nat → Prop} {cs : List AVal} {vs : List Value} {i : Nat} {y : AVal} (hr : ∀ (j : Nat) c v, cs[j]? = some c → vs[j]? = some v → VRel w φ F B c v) (hm : ∀ z u, VRel w φ F B z u → VRel w φ' F' B z u) (hy : ∀ v, vs[i]? = some v → VRel w φ' F' B y v) :
    ∀ (j : Nat) c v, (cs.set i y)[j]? = some c → vs[j]? = some v → VRel w φ' F' B c v := fun j c v hc hv => by
  rw [List.getElem?_set] at hc
  split at hc
  · next e =>
    subst e
    split at hc
    · cases hc; exact hy v hv
    · cases hc
  · exact hm _ _ (hr j c v hc hv)
theorem wkCell_sound {nm : Nm} {i sz p q : Nat} {v : Value} {K : St → Option X} (hI : Inv fr φ F s a w) (h : wkCell nm i s K = some out) (hx : VRel w φ F fr.B (.ptr nm sz p q) v) :
    ∃ φ' F' s', K s' = some out ∧ Inv fr φ' F' s' a w ∧ ∀ z u, VRel w φ F fr.B z u → VRel w φ' F' fr.B z u := by
  unfold wkCell at h
  split at h
  · next cs hf =>
    split at h
    · next c hc =>
      obtain ⟨b, hb, _, _, hco, h4⟩ := hI.nd nm _ (find_mem hf)
      obtain ⟨u, hu, hcu⟩ := h4 i c hc
      obtain ⟨φ', F', s', y, h, hI', hy, hok, hm⟩ := wkLeaf_sound hI h hcu
      split at h
      · next cs' hf' =>
        obtain ⟨hcan, h⟩ := grd_some h
        obtain ⟨b', hb', hw', hl', hco', h4'⟩ := hI'.nd nm _ (find_mem hf')
        have hbb : b' = b := by
          have hx' := hm _ _ hx
          cases hx with
          | ptrD e A => rw [hb] at e; cases e
          | ptr e =>
            cases hx' with
            | ptrD e' A => rw [hb'] at e'; cases e'
            | ptr e' => rw [hb] at e; rw [hb'] at e'; cases e; cases e'; rfl
        subst hbb
        refine ⟨φ', F', _, h, hI'.setN hf' rfl rfl hb' (Stp.refl _ _) ⟨b', hb', hw', by rw [List.length_set]; exact hl', fun z hz => ?_, fun j z hz => ?_⟩ (fun cs e => ⟨_, rfl⟩), hm⟩
        · rcases List.mem_or_eq_of_mem_set hz with hz | rfl
          · exact hco' z hz
          · exact hok (hco c (List.mem_of_getElem? hc))
        · rw [List.getElem?_set] at hz
          split at hz
          · next e =>
            subst e
            split at hz
            · cases hz; exact ⟨u, hu, hy⟩
            · cases hz
          · exact h4' j z hz
      · cases h
    · cases h
  · cases h
theorem trimW_sound (hI : Inv fr φ F s a w) (wk : List Wk) : ∃ φ', Inv fr φ' F (trimW wk s) a w := by
  unfold trimW
  cases wk.isEmpty with
  | true => exact ⟨φ, hI⟩
  | false =>
    obtain ⟨φ', hI', _⟩ := gone_sound hI (lostN s)
    exact ⟨φ', hI'⟩
theorem wkPath_sound {nm : Option Nm} : ∀ (p : List Nat) {φ : Nm → Loc} {F : Nat → Prop} {s : St} {x : AVal} {v : Value} {K : St → AVal → Option X}, Inv fr φ F s a w → wkPath nm s p x K = some out → VRel w φ F fr.B x v →
    ∃ φ' F' s' y, K s' y = some out ∧ Inv fr φ' F' s' a w ∧ VRel w φ' F' fr.B y v ∧ (x.cellOk → y.cellOk) ∧ ∀ z u, VRel w φ F fr.B z u → VRel w φ' F' fr.B z u
  | [], φ, F, s, x, v, K, hI, h, hx => wkLeaf_sound hI h hx
  | i :: p, φ, F, s, .tup cs, v, K, hI, h, hx => by
    unfold wkPath at h
    cases hx with
    | @tup _ vs hl hr =>
      split at h
      · next c hc =>
        have hi := (List.getElem?_eq_some_iff.1 hc).1
        have hv : vs[i]? = some vs[i] := List.getElem?_eq_getElem (by omega)
        obtain ⟨φ', F', s', y, h, hI', hy, _, hm⟩ := wkPath_sound p hI h (hr i c _ hc hv)
        refine ⟨φ', F', s', _, h, hI', .tup (by simpa using hl) (set_rel hr hm fun u hu => ?_), fun h => h, hm⟩
        rw [hv] at hu; cases hu; exact hy
      · cases h
  | i :: p, φ, F, s, .agg cs, v, K, hI, h, hx => by
    unfold wkPath at h
    cases hx with
    | @agg _ vs hl ho hr =>
      split at h
      · next c hc =>
        have hi := (List.getElem?_eq_some_iff.1 hc).1
        have hv : vs[i]? = some vs[i] := List.getElem?_eq_getElem (by omega)
        obtain ⟨φ', F', s', y, h, hI', hy, hok, hm⟩ := wkPath_sound p hI h (hr i c _ hc hv)
        refine ⟨φ', F', s', _, h, hI', .agg (by simpa using hl) (fun z hz => ?_) (set_rel hr hm fun u hu => ?_), fun h => h, hm⟩
        · rcases List.mem_or_eq_of_mem_set hz with hz | rfl
          · exact ho z hz
          · exact hok (ho c (List.mem_of_getElem? hc))
        · rw [hv] at hu; cases hu; exact hy
      · cases h
  | _ :: _, φ, F, s, .v _, v, K, hI, h, hx => ⟨φ, F, s, _, h, hI, hx, fun h => h, fun z u hz => hz⟩
  | _ :: _, φ, F, s, .sl .., v, K, hI, h, hx => ⟨φ, F, s, _, h, hI, hx, fun h => h, fun z u hz => hz⟩
  | _ :: _, φ, F, s, .nil0 _, v, K, hI, h, hx => ⟨φ, F, s, _, h, hI, hx, fun h => h, fun z u hz => hz⟩
  | _ :: _, φ, F, s, .osl .., v, K, hI, h, hx => ⟨φ, F, s, _, h, hI, hx, fun h => h, fun z u hz => hz⟩
  | i :: p, φ, F, s, .ptr nm' sz x y, v, K, hI, h, hx => by
    unfold wkPath at h
    obtain ⟨φ', F', s', h, hI', hm⟩ := wkCell_sound hI h hx
    exact ⟨φ', F', s', _, h, hI', hm _ _ hx, fun h => h, hm⟩
  | _ :: _, φ, F, s, .bptr .., v, K, hI, h, hx => ⟨φ, F, s, _, h, hI, hx, fun h => h, fun z u hz => hz⟩
  | _ :: _, φ, F, s, .fn .., v, K, hI, h, hx => ⟨φ, F, s, _, h, hI, hx, fun h => h, fun z u hz => hz⟩
  | _ :: _, φ, F, s, .undef, v, K, hI, h, hx => ⟨φ, F, s, _, h, hI, hx, fun h => h, fun z u hz => hz⟩
theorem Inv.setT (hI : Inv fr φ F s a w) {t : Nat} {x : AVal} (hx : VRel w φ F fr.B x (a.tmps.getD t undef)) : Inv fr φ F ⟨setn s.tmps t x, s.nodes⟩ a w :=
  { hI with
    len := by show (setn s.tmps t x).length = _; rw [setn_length]; exact hI.len
    tm := fun u => by
      show VRel w φ F fr.B (nth (setn s.tmps t x) u) _
      rw [nth_setn]
      split
      · next e => rw [← e.1]; exact hx
      · exact hI.tm u }
theorem wkGone_sound (hI : Inv fr φ F s a w) (to : Option Nm) : ∃ φ', Inv fr φ' F (wkGone to s) a w := by
  unfold wkGone
  cases to with
  | none => exact ⟨φ, hI⟩
  | some nm =>
    simp only
    cases (tmpNames s.tmps).any (nmEq nm) with
    | true => exact ⟨φ, hI⟩
    | false => obtain ⟨φ', hI', _⟩ := gone_sound hI [nm]; exact ⟨φ', hI'⟩
theorem wkAll_sound : ∀ (l : List Wk) {φ : Nm → Loc} {F : Nat → Prop} {s : St} {K : St → Option X}, Inv fr φ F s a w → wkAll l s K = some out → ∃ φ' F' s', K s' = some out ∧ Inv fr φ' F' s' a w
  | [], φ, F, s, K, hI, h => ⟨φ, F, s, h, hI⟩
  | p :: l, φ, F, s, K, hI, h => by
    unfold wkAll at h
    cases e : Nat.beq p.t 1000000 with
    | true =>
      rw [e] at h
      obtain ⟨φ1, hI1⟩ := wkGone_sound hI p.to
      exact wkAll_sound l hI1 h
    | false =>
      rw [e] at h
      obtain ⟨φ1, F1, s1, y, h, hI1, hy, _, _⟩ := wkPath_sound p.path hI h (hI.tm p.t)
      exact wkAll_sound l (hI1.setT hy) h
theorem enter_sound (hI : Inv fr φ F s a w) {id : Nat} {l : List Oper} {K : St → Option X} (h : s.enter cx id l K = some out) : ∃ φ' F' s', K s' = some out ∧ Inv fr φ' F' s' a w := by
  unfold St.enter at h
  split at h
  · exact ⟨φ, F, s, h, hI⟩
  · next lv wk hp =>
    simp only at h
    obtain ⟨h1, h2⟩ := grd_some h
    rw [Bool.and_eq_true] at h1
    obtain ⟨φ', hI', _⟩ := (hI.keep lv).ren _ (nodupN_iff.1 h1.1) (fun m m' cs hm e => by
      left
      split at e
      · cases e
      · revert e
        generalize (_ || _ : Bool) = b
        intro e
        cases b with
        | true => cases e
        | false => cases e; exact objFix_mem h1.2 m cs hm) (fun m m' e => by
      split at e
      · cases e
      · revert e
        generalize (_ || _ : Bool) = b
        intro e
        cases b with
        | true => cases e
        | false => cases e; exact canon_ok m)
    obtain ⟨φ2, F2, s2, h3, hI2⟩ := wkAll_sound wk hI' h2
    simp only [fcSt_eq] at h3
    obtain ⟨φ3, hI3⟩ := trimW_sound hI2 wk
    exact ⟨φ3, F2, _, h3, hI3.perm (sortN_perm _)⟩
theorem enterL_sound (hI : Inv fr φ F s a w) {c : Code} {K : St → Option X} (h : s.enterL cx c K = some out) : ∃ φ' F' s', K s' = some out ∧ Inv fr φ' F' s' a w := by
  unfold St.enterL at h
  split at h
  · exact enter_sound hI h
  · exact ⟨φ, F, s, h, hI⟩
/-- The order of a region that draws matters not. -/
def DrawsOk (P : Program) (cx : Cx) : Prop :=
  ∀ (X : Type) (out : X) (ops : Array Oper) (s : St) (K : St → Option X) (Q : Exit → Act → World → Prop) (fr : Fr) (φ : Nm → Loc) (F : Nat → Prop) (a : Act) (w : World), FrOk fr → evOps cx ops true ops.toList [] s K = some out → Inv fr φ F s a w →
    (∀ φ' F' s' a' w', K s' = some out → Inv fr φ' F' s' a' w' → Q .normal a' w') → wpAny P .any ops Q ops.size (Array.replicate ops.size false) a w
theorem loop_sound {c : Code} {f : (St → Option X) → St → Option X} {kx : Nat → St → Option X} {kr : St → Option X}
    (hf : ∀ (rec : St → Option X) s φ F a w (Q' : Exit → Act → World → Prop), f rec s = some out → Inv fr φ F s a w → (∀ φ' F' s' a' w', rec s' = some out → Inv fr φ' F' s' a' w' → Q' .normal a' w') → (∀ id φ' F' s' a' w', kx id s' = some out → Inv fr φ' F' s' a' w' → Q' (.exit id) a' w') → (∀ φ' F' s' a' w', kr s' = some out → Inv fr φ' F' s' a' w' → Q' .ret a' w') → c.wp P Q' a w)
    (hx : ∀ id φ' F' s' a' w', kx id s' = some out → Inv fr φ' F' s' a' w' → Q (.exit id) a' w') (hr : ∀ φ' F' s' a' w', kr s' = some out → Inv fr φ' F' s' a' w' → Q .ret a' w')
    (n : Nat) (h : iter f n s = some out) (hI : Inv fr φ F s a w) : (Code.loop c).wp P Q a w := by
  intro b k cs
  have key : ∀ n s φ F a w, iter f n s = some out → Inv fr φ F s a w → ∃ e a' w', Q e a' w' ∧ Arrives P (lone (b.at a (.code c :: .inLoop c :: k)) cs w) b k cs e a' w' := by
    intro n
    induction n with
    | zero => intro s φ F a w h; cases h
    | succ n ih =>
      intro s φ F a w h hI
      obtain ⟨e, a₁, w₁, hq, harr⟩ := hf (iter f n) s φ F a w (Exit.then (fun a' w' => ∃ s' φ' F', iter f n s' = some out ∧ Inv fr φ' F' s' a' w') Q) h hI (fun φ' F' s' a' w' h' hI' => ⟨s', φ', F', h', hI'⟩) (fun id φ' F' s' a' w' h' hI' => hx id _ _ _ _ _ h' hI') (fun φ' F' s' a' w' h' hI' => hr _ _ _ _ _ h' hI') b (.inLoop c :: k) cs
      cases e with
      | normal =>
        obtain ⟨s', φ', F', h', hI'⟩ := hq
        obtain ⟨e₂, a₂, w₂, hq₂, harr₂⟩ := ih s' φ' F' a₁ w₁ h' hI'
        exact ⟨e₂, a₂, w₂, hq₂, .of_steps (Steps.trans harr (.one step_inLoop)) harr₂⟩
      | exit id => exact ⟨_, a₁, w₁, hq, .pass (x := .inLoop c) rfl (fun _ _ => .inl (by simp)) harr⟩
      | goto l => exact ⟨_, a₁, w₁, hq, .pass (x := .inLoop c) rfl (fun _ _ => .inl (by simp)) harr⟩
      | ret => exact ⟨_, a₁, w₁, hq, .pass (x := .inLoop c) rfl (fun _ _ => .inl (by simp)) harr⟩
      | panic ch => exact ⟨_, a₁, w₁, hq, .pass (x := .inLoop c) rfl (fun _ _ => .inl (by simp)) harr⟩
      | outgrown => exact ⟨_, a₁, w₁, hq, .pass (x := .inLoop c) rfl (fun _ _ => .inl (by simp)) harr⟩
  obtain ⟨e, a', w', hq, harr⟩ := key n s φ F a w h hI
  exact ⟨e, a', w', hq, .of_steps (.one step_loop) harr⟩
theorem evCode_sound (hT : TabOk cx.T P) (hO : NoOther cx.T) (hC : FnsOk P cx) (hFr : FrOk fr) (hD : DrawsOk P cx) (hm : P.follows .mixedOrders = true) (fuel : Nat) :
    ∀ (c : Code) (s : St) (kn : St → Option X) (kx : Nat → St → Option X) (kr : St → Option X) (Q : Exit → Act → World → Prop) (φ : Nm → Loc) (F : Nat → Prop) (a : Act) (w : World), evCode cx fuel c s kn kx kr = some out → Inv fr φ F s a w →
      (∀ φ' F' s' a' w', kn s' = some out → Inv fr φ' F' s' a' w' → Q .normal a' w') → (∀ id φ' F' s' a' w', kx id s' = some out → Inv fr φ' F' s' a' w' → Q (.exit id) a' w') → (∀ φ' F' s' a' w', kr s' = some out → Inv fr φ' F' s' a' w' → Q .ret a' w') → c.wp P Q a w := by
  intro c
  induction c with
  | skip => intro s kn kx kr Q φ F a w h hI hn _ _; exact wp_skip (hn _ _ _ _ _ h hI)
  | label l => intro s kn kx kr Q φ F a w h hI hn _ _; exact wp_label (hn _ _ _ _ _ h hI)
  | region id ops draw =>
    intro s kn kx kr Q φ F a w h hI hn _ _
    obtain ⟨φ', F', s', h1, hI1⟩ := enter_sound hI h
    rw [evOpsR_eq] at h1
    cases draw with
    | false =>
      refine wp_region (evOps_sound hT hO hC hFr hn ops.toList (List.range ops.size) [] (by simp) (fun j i hj => ?_) h1 hI1)
      have hlt := (List.getElem?_eq_some_iff.1 hj).1
      rw [List.length_range] at hlt
      rw [List.getElem?_range hlt] at hj
      cases hj
      simp
    | true => exact wp_region_any hm (hD X out ops s' kn Q fr φ' F' a _ hFr h1 (hI1.world (Stp.drawn w _)) hn)
  | seq x y ihx ihy =>
    intro s kn kx kr Q φ F a w h hI hn hx hr
    refine wp_seq (ihx s _ kx kr _ φ F a w h hI (fun φ' F' s' a' w' h' hI' => ihy s' kn kx kr Q φ' F' a' w' h' hI' hn hx hr) (fun id φ' F' s' a' w' h' hI' => hx id _ _ _ _ _ h' hI') (fun φ' F' s' a' w' h' hI' => hr _ _ _ _ _ h' hI'))
  | cond c x y ihx ihy =>
    intro s kn kx kr Q φ F a w h hI hn hx hr
    obtain ⟨b, hb, h1⟩ := asB_some (show asB (s.eval c) (fun t => bif t then evCode cx fuel x s kn kx kr else evCode cx fuel y s kn kx kr) = some out from h) (hI.eval hFr c)
    refine wp_cond hb ?_
    cases b with
    | true => exact ihx s kn kx kr Q φ F a w h1 hI hn hx hr
    | false => exact ihy s kn kx kr Q φ F a w h1 hI hn hx hr
  | block id x ih =>
    intro s kn kx kr Q φ F a w h hI hn hx hr
    refine wp_block (ih s kn _ kr _ φ F a w h hI (fun φ' F' s' a' w' h' hI' => hn _ _ _ _ _ h' hI') (fun i φ' F' s' a' w' h' hI' => ?_) (fun φ' F' s' a' w' h' hI' => hr _ _ _ _ _ h' hI'))
    show if i = id then Q .normal a' w' else Q (.exit i) a' w'
    cases e : Nat.beq i id with
    | true =>
      rw [e] at h'
      rw [if_pos (Nat.eq_of_beq_eq_true e)]
      exact hn _ _ _ _ _ h' hI'
    | false =>
      rw [e] at h'
      rw [if_neg (fun h => by rw [h, Nat.beq_refl] at e; cases e)]
      exact hx i _ _ _ _ _ h' hI'
  | loop x ih =>
    intro s kn kx kr Q φ F a w h hI hn hx hr
    obtain ⟨φ', F', s', h, hI⟩ := enterL_sound hI (show s.enterL cx x (fun s => iter (fun rec s => evCode cx fuel x s (fun s => s.enterL cx x rec) kx kr) fuel s) = some out from h)
    exact loop_sound (f := fun rec s => evCode cx fuel x s (fun s => s.enterL cx x rec) kx kr) (fun rec s φ F a w Q' h hI h1 h2 h3 => ih s _ kx kr Q' φ F a w h hI (fun φ' F' s' a' w' h' hI' => by
      obtain ⟨φ2, F2, s2, h2, hI2⟩ := enterL_sound hI' h'
      exact h1 _ _ _ _ _ h2 hI2) h2 h3) hx hr fuel h hI
  | exit id => intro s kn kx kr Q φ F a w h hI _ hx _; exact wp_exit (hx id _ _ _ _ _ h hI)
  | ret => intro s kn kx kr Q φ F a w h hI _ _ hr; exact wp_ret (hr _ _ _ _ _ h hI)
  | rangeFunc => intro s kn kx kr Q φ F a w h; cases h
  | scope => intro s kn kx kr Q φ F a w h; cases h
  | goto => intro s kn kx kr Q φ F a w h; cases h
  | refuse => intro s kn kx kr Q φ F a w h; cases h
end
end Go.Proofs.YtlaojkheenobaaaDoorS
