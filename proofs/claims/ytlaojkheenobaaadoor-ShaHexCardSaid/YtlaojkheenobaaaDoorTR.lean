/- slices.Insert of one element ahead of others: its roads that ask for a capacity. -/
import Derived.Test.YtlaojkheenobaaaDoorTQ
import Derived.Lib.Overlaps
namespace Go.Proofs.YtlaojkheenobaaaDoorS
open Go Go.RowKit Go.Lib
set_option linter.unusedVariables false
set_option linter.unusedSimpArgs false
section
variable {X : Type} {P : Program} {cx : Cx} {fr : Fr} {φ φ' : Nm → Loc} {F F' B : Nat → Prop} {s : St} {a : Act} {w w' : World} {Q : Exit → Act → World → Prop} {out : X}
theorem eval_put_self {d : Nat} {v : Value} (h : d < a.tmps.size) : (a.put (some d) v).eval (.tmp d) = v := by
  simp [Act.eval, Act.put, Array.getD_eq_getD_getElem?, h]
theorem eval_put_ne {d : Option Tmp} {t : Nat} {v : Value} (h : d ≠ some t) : (a.put d v).eval (.tmp t) = a.eval (.tmp t) := by
  cases d with
  | none => rfl
  | some d =>
    have h' : d ≠ t := fun e => h (by rw [e])
    simp only [Act.eval, Act.put]
    rw [Array.getD_eq_getD_getElem?, Array.getD_eq_getD_getElem?, Array.getElem?_setIfInBounds_ne h']
theorem wpOps_step {ops : Array Oper} {o : Oper} {i : Nat} {is : List Nat} {v : Value} (hi : ops[i]? = some o) (hg : o.guard = none) (hr : (execOp a.eval o).run P w = .ok (.value v) w') (hn : wpOps P ops Q is (a.put o.dst v) w') : wpOps P ops Q (i :: is) a w := by
  rw [wpOps_cons]
  unfold wpOp
  rw [hi]
  show (if Region.wanted o _ then _ else _)
  rw [if_pos (by simp only [Region.wanted, hg])]
  exact .inl (wp_value hr hn)
/-- Parts of a code. -/
def cdL : Code → Code
  | .seq a _ => a
  | c => c
def cdR : Code → Code
  | .seq _ b => b
  | c => c
def cdT : Code → Code
  | .cond _ a _ => a
  | c => c
def cdO : Code → Array Oper
  | .region _ ops _ => ops
  | _ => #[]
def cdI : Code → Nat
  | .region id _ _ => id
  | _ => 0
def opAt (ops : Array Oper) (i : Nat) : Oper := ops.toList.getD i ⟨none, .move (.tmp 0), 0, "", #[], none⟩
def opsTo (ops : Array Oper) (i j : Nat) : List Oper := (ops.toList.drop i).take (j - i)
theorem grd_pos {b : Bool} {K : Option X} (h : b = true) : grd b K = K := by rw [h]; rfl
theorem bif_neg {α : Type} {b : Bool} {x y : α} (h : b = false) : (bif b then x else y) = y := by rw [h]; rfl
theorem bif_pos {α : Type} {b : Bool} {x y : α} (h : b = true) : (bif b then x else y) = x := by rw [h]; rfl
/-- Operations that but put a value. -/
def pureOp (o : Oper) : Bool := match o.guard with
  | some _ => false
  | none => match o.op with
    | .move _ => true
    | .slice _ _ _ _ _ => true
    | .binOp _ _ _ _ _ => true
    | _ => false
theorem evOp_pure (hT : TabOk cx.T P) (hO : NoOther cx.T) (hC : FnsOk P cx) (hFr : FrOk fr) (hI : Inv fr φ F s a w) {o : Oper} {K : St → Option X} (hp : pureOp o = true) (h : evOp cx s o K = some out) : o.guard = none ∧ ∃ s' v, K s' = some out ∧ (execOp a.eval o).run P w = .ok (.value v) w ∧ Inv fr φ F s' (a.put o.dst v) w := by
  obtain ⟨dst, op, ty, pos, aft, gd⟩ := o
  unfold pureOp at hp
  split at hp
  · cases hp
  · next hg =>
  refine ⟨hg, ?_⟩
  split at hp
  · next x e =>
    simp only at e
    subst e
    exact ⟨_, _, h, rfl, hI.put ((hI.eval hFr x).resize ty) dst⟩
  · next t x lo hi mx e =>
    simp only at e
    subst e
    simp only [evOp, evOpR] at h
    obtain ⟨z, v, h1, hv, hrun⟩ := evSlice_sound hT hI h (hI.eval hFr x) (opt_eval hFr hI lo) (opt_none lo) (opt_eval hFr hI hi) (opt_none hi) (opt_eval hFr hI mx) (opt_none (a := a) mx)
    exact ⟨_, v, h1, by simp only [execOp, Sem.run_bind, hrun, Result.andThen_ok, Sem.run_pure], hI.put hv dst⟩
  · next op t x y u e =>
    simp only at e
    subst e
    simp only [evOp, evOpR] at h
    obtain ⟨z, v, h1, hv, hrun⟩ := evBinN_sound hT hO hC.cmp hI h (hI.eval hFr x) (hI.eval hFr y) x y
    exact ⟨_, v, h1, by simp only [execOp, Sem.run_bind, hrun, Result.andThen_ok, Sem.run_pure] at hrun ⊢, hI.put hv dst⟩
  · cases hp
def evPs (cx : Cx) : List Oper → St → (St → Option X) → Option X
  | [], s, K => K s
  | o :: l, s, K => bif pureOp o then evOp cx s o (fun s' => evPs cx l s' K) else none
theorem evPs_sound (hT : TabOk cx.T P) (hO : NoOther cx.T) (hC : FnsOk P cx) (hFr : FrOk fr) {ops : Array Oper} {is2 : List Nat} {K : St → Option X} : ∀ (l : List Oper) (is : List Nat) {s : St} {a : Act}, l.length = is.length → (∀ (j : Nat) i, is[j]? = some i → ops[i]? = l[j]?) → evPs cx l s K = some out → Inv fr φ F s a w →
    (∀ s1 a', K s1 = some out → Inv fr φ F s1 a' w → (∀ t, (∀ o ∈ l, o.dst ≠ some t) → a'.eval (.tmp t) = a.eval (.tmp t)) → wpOps P ops Q is2 a' w) → wpOps P ops Q (is ++ is2) a w
  | [], is, s, a, hl, _, h, hI, hk => by
    have : is = [] := List.eq_nil_of_length_eq_zero hl.symm
    subst this
    exact hk s a h hI (fun _ _ => rfl)
  | o :: l, [], s, a, hl, _, _, _, _ => by simp at hl
  | o :: l, i :: is, s, a, hl, hi, h, hI, hk => by
    unfold evPs at h
    cases hp : pureOp o with
    | false => rw [hp] at h; cases h
    | true =>
      rw [hp, cond_true] at h
      obtain ⟨hg, s', v, h, hr, hI'⟩ := evOp_pure hT hO hC hFr hI hp h
      refine wpOps_step (hi 0 i rfl) hg hr (evPs_sound hT hO hC hFr l is (by simpa using hl) (fun j i hj => by simpa using hi (j + 1) i (by simpa using hj)) h hI' (fun s1 a' h1 hI2 hfr => hk s1 a' h1 hI2 (fun t ht => ?_)))
      rw [hfr t (fun o ho => ht o (List.mem_cons_of_mem _ ho)), eval_put_ne (ht o List.mem_cons_self)]
def evGs (cx : Cx) (ops : Array Oper) : List Oper → St → (St → Option X) → Option X
  | [], s, K => K s
  | o :: l, s, K => evG cx ops s o (fun s' => evGs cx ops l s' K)
theorem evGs_sound (hT : TabOk cx.T P) (hO : NoOther cx.T) (hC : FnsOk P cx) (hFr : FrOk fr) {ops : Array Oper} {is2 : List Nat} {K : St → Option X} : ∀ (l : List Oper) (is : List Nat) {φ : Nm → Loc} {F : Nat → Prop} {s : St} {a : Act} {w : World}, l.length = is.length → (∀ (j : Nat) i, is[j]? = some i → ops[i]? = l[j]?) → evGs cx ops l s K = some out → Inv fr φ F s a w →
    (∀ φ' F' s1 a' w', K s1 = some out → Inv fr φ' F' s1 a' w' → wpOps P ops Q is2 a' w') → wpOps P ops Q (is ++ is2) a w
  | [], is, φ, F, s, a, w, hl, _, h, hI, hk => by
    have : is = [] := List.eq_nil_of_length_eq_zero hl.symm
    subst this
    exact hk φ F s a w h hI
  | o :: l, [], φ, F, s, a, w, hl, _, _, _, _ => by simp at hl
  | o :: l, i :: is, φ, F, s, a, w, hl, hi, h, hI, hk => by
    unfold evGs at h
    rw [List.cons_append, wpOps_cons]
    exact evG_sound hT hO hC hFr hI (hi 0 i rfl) h (fun φ' F' s2 a' w' e hI' => evGs_sound hT hO hC hFr l is (by simpa using hl) (fun j i hj => by simpa using hi (j + 1) i (by simpa using hj)) e hI' hk)
def seqs : List Code → Code → Code
  | [], r => r
  | c :: l, r => .seq c (seqs l r)
def evSeq (cx : Cx) (fuel : Nat) : List Code → St → (St → Option X) → Option X
  | [], s, K => K s
  | c :: l, s, K => evCode cx fuel c s (fun s' => evSeq cx fuel l s' K) (fun _ _ => none) (fun _ => none)
theorem evSeq_sound (hT : TabOk cx.T P) (hO : NoOther cx.T) (hC : FnsOk P cx) (hFr : FrOk fr) (hm : P.follows .mixedOrders = true) {fuel : Nat} {r : Code} {K : St → Option X} : ∀ (l : List Code) {φ : Nm → Loc} {F : Nat → Prop} {s : St} {a : Act} {w : World}, evSeq cx fuel l s K = some out → Inv fr φ F s a w →
    (∀ φ' F' s1 a' w', K s1 = some out → Inv fr φ' F' s1 a' w' → r.wp P Q a' w') → (seqs l r).wp P Q a w
  | [], φ, F, s, a, w, h, hI, hk => hk φ F s a w h hI
  | c :: l, φ, F, s, a, w, h, hI, hk => by
    unfold evSeq at h
    exact wp_seq (evCode_sound hT hO hC hFr (drawsOk hT hO hC) hm fuel c _ _ _ _ _ φ F _ w h hI (fun φ' F' s' a' w' h' hI1 => evSeq_sound hT hO hC hFr hm l h' hI1 hk) (fun _ _ _ _ _ _ h' => by cases h') (fun _ _ _ _ _ h' => by cases h'))
theorem run_cap {t ty e : TypeId} (hu : P.underlying t = some (.slice e)) (A : Option Addr) (n c : Nat) (w : World) : (Builtin.cap_ #[t] ty #[.slice A n c]).run P w = .ok (.int .i64 c) w := by
  unfold Builtin.cap_
  simp [run_underlying hu, goInt]
theorem shape_of {b o : Nat} {v : Value} (h : w.cell? ⟨b, o, none⟩ = some v) : ∃ t k, w.shape? b = some (t, k) ∧ k ≠ 0 := by
  unfold World.cell? at h
  unfold World.shape?
  simp only at h
  cases e : w.heap[b]? with
  | none => rw [e] at h; cases h
  | some x =>
    rw [e] at h
    cases x with
    | cells c t f =>
      refine ⟨t, c.size, rfl, fun h0 => ?_⟩
      simp only at h
      rw [Array.getElem?_eq_none (by omega)] at h
      cases h
    | _ => cases h
theorem shape_size {b : Nat} {t k : Nat} (h : w.shape? b = some (t, k)) : bsize w b = k := by
  unfold World.shape? at h
  unfold bsize
  cases e : w.heap[b]? with
  | none => rw [e] at h; cases h
  | some x =>
    rw [e] at h
    cases x with
    | cells c t f => cases h; rfl
    | _ => cases h
theorem run_overlaps_ne (w : World) (tS tR e : TypeId) (ht : P.underlying tS = some (.slice e)) (size : Nat) (hz : ∀ w, (Go.sizeOf e).run P w = .ok size w)
    (a b : Addr) (la ca lb cb : Nat) (hne : a.block ≠ b.block) (tA tB : TypeId) (kA kB : Nat)
    (hsa : w.shape? a.block = some (tA, kA)) (hsb : w.shape? b.block = some (tB, kB)) (hkA : kA ≠ 0)
    (hfb : w.frozen? b = false) (hfe : w.frozen? { block := b.block, off := kB } = false) :
    (Extern.SlicesOverlaps.overlaps #[tS, tS] #[tR] #[.slice (some a) la ca, .slice (some b) lb cb]).run P w = .ok (.bool false) w := by
  have hnb : (a.block != b.block) = true := by simpa using hne
  have hnb' : (a.block == b.block) = false := by simpa using hne
  change Sem.run P (α := Value) (do
    let some t := (#[tS, tS] : Array TypeId)[0]? | stuck "slices.overlaps: no parameter types"
    let .slice elem ← underlying t | stuck "slices.overlaps: slice type expected"
    let size ← sizeOf elem
    match (some a : Option Addr), (some b : Option Addr) with
    | some a, some b =>
      if la = 0 ∨ lb = 0 ∨ size = 0 then pure (Value.bool false)
      else if a.block != b.block && (← frozen a) && (← frozen b) then unsupported .addressObserved
      else do
        if a.block != b.block then do
          noView a; noView b
          if ← mayBeOne a b then return Value.bool ((← choose (.extern "sameAddr.stringBytes" 2)) == 1)
        pure (Value.bool (a.block == b.block && a.off < b.off + lb * size && b.off < a.off + la * size))
    | _, _ => pure (Value.bool false)) w = _
  by_cases h0 : la = 0 ∨ lb = 0 ∨ size = 0
  · simp [run_underlying ht, hz, h0]
  · cases kA with
    | zero => exact absurd rfl hkA
    | succ kA =>
      cases hfa : w.frozen? a with
      | true => simp [run_underlying ht, hz, h0, hnb, hnb', frozen, noView, viewAt, mayBeOne, stringish, shape, Sem.run, hsa, hsb, hfa, hfb, hfe]
      | false =>
        cases hfc : w.frozen? { block := a.block, off := kA + 1 } with
        | true => simp [run_underlying ht, hz, h0, hnb, hnb', frozen, noView, viewAt, mayBeOne, stringish, shape, Sem.run, hsa, hsb, hfa, hfb, hfe, hfc]
        | false => simp [run_underlying ht, hz, h0, hnb, hnb', frozen, noView, viewAt, mayBeOne, stringish, shape, Sem.run, hsa, hsb, hfa, hfb, hfe, hfc]
def plainA : AVal → Bool
  | .v _ => true
  | .sl _ _ _ => true
  | .nil0 _ => true
  | .undef => true
  | .tup [] => true
  | _ => false
theorem VRel.plain {x : AVal} {v : Value} (h : VRel w φ F B x v) (hp : plainA x = true) (φ' : Nm → Loc) : VRel w φ' F B x v := by
  cases h with
  | v h => exact .v h
  | sl h => exact .sl h
  | nil0 A => exact .nil0 A
  | undef v => exact .undef v
  | @tup cs vs hl h =>
    cases cs with
    | nil => exact .tup hl (fun j c v hc => by simp at hc)
    | cons => cases hp
  | _ => cases hp
/-- One element more than is known: its cells are there, if the slice has room for it. -/
theorem Inv.extend (hI : Inv fr φ F s a w) {n k c : Nat} {xs : List CV} (hs : s.nodes = [([1000], .row false (some k) xs)]) (h0 : nth s.tmps 0 = .osl [1000] (some k) 0 n) (hl0 : 0 < s.tmps.length) (hp : ∀ t, t ≠ 0 → plainA (nth s.tmps t) = true)
    {A : Option Addr} (hv : a.eval (.tmp 0) = .slice A n c) (hc : n + 1 ≤ c) (hn : 0 < n) :
    ∃ φ', Inv fr φ' F ⟨setn s.tmps 0 (.osl [900] (some k) 0 n), [([900], .row false (some k) (xs.take n ++ [.agg (List.replicate k .any)]))]⟩ a w := by
  have hm : ([1000], Node.row false (some k) xs) ∈ s.nodes := by rw [hs]; exact List.mem_cons_self
  obtain ⟨hk, blk, hφ, hbn, hrow⟩ := hI.nd _ _ hm
  have ht := hI.tm 0
  rw [h0] at ht
  have hv' : a.tmps.getD 0 undef = .slice A n c := hv
  rw [hv'] at ht
  obtain ⟨b, rfl, rfl, k1, k2, k3⟩ : ∃ b, blk = some b ∧ A = some ⟨b, 0 * szOf (some k), none⟩ ∧ 0 + n ≤ xs.length ∧ xs.length ≤ 0 + c ∧ (0 + c) * szOf (some k) ≤ bsize w b := by
    cases ht with
    | oslD h => rw [h] at hφ; cases hφ
    | osl h h' =>
      rw [hφ] at h
      cases h
      rcases h' with ⟨A', e, e2, _⟩ | ⟨b, cap, e1, e, g1, g2, g3, _⟩ | ⟨e0, _⟩
      · omega
      · cases e
        exact ⟨b, e1, rfl, g1, g2, g3⟩
      · exact absurd e0 (szOf_ne hk)
  obtain ⟨hw, _, hl, hel⟩ := hrow b rfl
  have hown := hI.own _ _ b _ hm rfl hφ
  have hsz : (n + 1) * k ≤ bsize w b := by
    simp only [szOf, Nat.zero_add] at k3
    exact Nat.le_trans (Nat.mul_le_mul_right _ hc) k3
  have hlen : (xs.take n ++ [CV.agg (List.replicate k .any)]).length = n + 1 := by
    rw [List.length_append, List.length_take, List.length_singleton]; omega
  let φ1 : Nm → Loc := fun nm => if nm = [900] then .at_ (some b) (n + 1) else .absent
  have hφ1 : φ1 [900] = .at_ (some b) (n + 1) := if_pos rfl
  refine ⟨φ1, ?_⟩
  refine { len := ?_, tm := fun t => ?_, nd := fun nm N hN => ?_, dom := fun nm h => ?_, uniq := by simp, sep := fun nm N nm' N' b k k' h1 h2 _ _ _ _ => ?_, own := fun nm N b' k' h1 _ h3 => ?_, fb := hI.fb, f0 := hI.f0, fin := hI.fin, step := hI.step, obj := fun nm cs b k h => ?_, rw_ := fun r fz sh ys h h1 h2 => ?_, defers := hI.defers }
  · show (setn s.tmps 0 _).length = _
    rw [setn_length]; exact hI.len
  · show VRel w φ1 F fr.B (nth (setn s.tmps 0 _) t) _
    rw [nth_setn]
    split
    · next h =>
      obtain ⟨rfl, _⟩ := h
      rw [hv']
      exact .osl hφ1 (.inr (.inl ⟨b, c, rfl, rfl, by omega, by omega, k3, szOf_ne hk⟩))
    · next h => exact (hI.tm t).plain (hp t (fun e => h ⟨e.symm, by subst e; exact hl0⟩)) φ1
  · simp only [List.mem_singleton, Prod.mk.injEq] at hN
    obtain ⟨rfl, rfl⟩ := hN
    refine ⟨hk, some b, by rw [hlen]; exact hφ1, (fun e => by cases e), fun b' e => ?_⟩
    cases e
    refine ⟨hw, (fun e => by cases e), by rw [hlen]; exact hsz, fun i x hx => ?_⟩
    rcases Nat.lt_or_ge i n with hi | hi
    · rw [List.getElem?_append_left (by rw [List.length_take]; omega), List.getElem?_take, if_pos hi] at hx
      exact hel i x hx
    · have hi' := (List.getElem?_eq_some_iff.1 hx).1
      rw [hlen] at hi'
      have : i = n := by omega
      subst this
      rw [List.getElem?_append_right (by rw [List.length_take]; omega), List.length_take, Nat.min_eq_left (by omega), Nat.sub_self] at hx
      cases hx
      have hcell : ∀ j, ∃ u, j < k → w.cell? ⟨b, i * k + j, none⟩ = some u := fun j => by
        by_cases hj : j < k
        · have hlt : i * k + j < bsize w b := by rw [Nat.add_mul, Nat.one_mul] at hsz; omega
          obtain ⟨u, hu⟩ := Option.isSome_iff_exists.1 (hw.at_ _ hlt).2
          exact ⟨u, fun _ => hu⟩
        · exact ⟨.nilIface, fun h => absurd h hj⟩
      obtain ⟨us, hus⟩ := Classical.axiomOfChoice hcell
      refine ⟨(List.range k).map us, by simp, fun j u hu => ?_, .agg (by simp) (fun c hc => ?_) (fun j c u hc hu => ?_)⟩
      · rw [List.getElem?_map, Option.map_eq_some_iff] at hu
        obtain ⟨q, hq, rfl⟩ := hu
        have hlt : j < k := by have := (List.getElem?_eq_some_iff.1 hq).1; simpa using this
        rw [List.getElem?_range hlt] at hq
        cases hq
        simp only [szOf]
        exact hus j hlt
      · rw [List.mem_replicate] at hc; rw [hc.2]; rfl
      · rw [List.getElem?_replicate] at hc
        split at hc
        · cases hc
          rw [List.getElem?_map, Option.map_eq_some_iff] at hu
          obtain ⟨q, hq, rfl⟩ := hu
          next hlt =>
          rw [List.getElem?_range hlt] at hq
          cases hq
          exact .any _ (hw.one _ _ (hus j hlt))
        · cases hc
  · by_cases e : nm = [900]
    · subst e; exact ⟨_, List.mem_singleton.2 rfl⟩
    · exact absurd (if_neg e) h
  · simp only [List.mem_singleton, Prod.mk.injEq] at h1 h2
    rw [h1.1, h2.1]
  · simp only [List.mem_singleton, Prod.mk.injEq] at h1
    obtain ⟨rfl, rfl⟩ := h1
    rw [hφ1] at h3
    cases h3
    exact hown
  · simp at h
  · simp only [List.mem_singleton, Prod.mk.injEq, List.cons.injEq] at h
    omega
theorem pure_move {o : Oper} {x : Operand} (ho : o.op = .move x) : (execOp a.eval o).run P w = .ok (.value (a.eval x)) w := by
  obtain ⟨dst, op, ty, pos, aft, gd⟩ := o
  simp only at ho
  subst ho
  rfl
theorem val_inj {x y : Value} {r : Result Next} (h : r = .ok (.value x) w) (h' : r = .ok (.value y) w') : x = y := by
  rw [h] at h'
  cases h'
  rfl
theorem list_idx {ops : Array Oper} {l : List Oper} (h : ops.toList = l) (i : Nat) : ops[i]? = l[i]? := by rw [← h, Array.getElem?_toList]
theorem sl_block {p : Bool} {sh : Option Nat} {ys : List CV} {v : Value} (h : VRel w φ F B (.sl p sh ys) v) (h0 : 0 < ys.length) (hz : 0 < szOf sh) : ∃ b o c u, v = .slice (some ⟨b, o, none⟩) ys.length c ∧ (F b ∨ B b) ∧ w.cell? ⟨b, o, none⟩ = some u := by
  cases h with
  | sl h =>
    obtain ⟨A, c, rfl, hc, h⟩ := h
    obtain ⟨b, o, rfl, hb, he⟩ := h h0
    have := he 0 _ (List.getElem?_eq_getElem h0)
    rw [Nat.zero_mul, Nat.add_zero] at this
    refine ⟨b, o, c, ?_⟩
    have hb' : F b ∨ B b := hb.elim .inl (fun h => .inr h.2)
    cases sh with
    | none => obtain ⟨u, h1, _⟩ := this; exact ⟨u, rfl, hb', h1⟩
    | some k =>
      obtain ⟨us, h1, h2, _⟩ := this
      simp only [szOf] at hz
      refine ⟨us[0]'(by omega), rfl, hb', ?_⟩
      have := h2 0 _ (List.getElem?_eq_getElem (by omega))
      simpa using this
theorem wrap1 {n : Nat} (h : n ≤ 140737488355328) : IntKind.wrap .i64 ((n : Int) + 1) = ((n + 1 : Nat) : Int) := by rw [IntKind.wrap_i64]; omega
theorem ins_rowG {α : Type} (x0 j : Nat) (y z : α) (x3 : List α) (hj : j < x0) (h3 : x0 ≤ List.length x3) :
  List.take (0 + (x0 + 1)) ((List.take (0 + (j+1)) ((List.take (0 + j) (List.take j x3 ++ List.replicate (x0 + 1 - j) z)) ++ (List.take (min 1 ((x0 + 1) - j)) [y]) ++ (List.drop ((0 + j) + (min 1 ((x0 + 1) - j))) (List.take j x3 ++ List.replicate (x0 + 1 - j) z)))) ++ (List.take (min (List.length (List.take (x0 - j) (List.drop (0 + j) x3))) ((x0 + 1) - (j+1))) (List.take (x0 - j) (List.drop (0 + j) x3))) ++ (List.drop ((0 + (j+1)) + (min (List.length (List.take (x0 - j) (List.drop (0 + j) x3))) ((x0 + 1) - (j+1)))) ((List.take (0 + j) (List.take j x3 ++ List.replicate (x0 + 1 - j) z)) ++ (List.take (min 1 ((x0 + 1) - j)) [y]) ++ (List.drop ((0 + j) + (min 1 ((x0 + 1) - j))) (List.take j x3 ++ List.replicate (x0 + 1 - j) z)))))
  = List.take j x3 ++ y :: List.drop j (List.take x0 x3) := by
  have hm : min 1 ((x0 + 1) - j) = 1 := by omega
  have hl : (List.take (x0 - j) (List.drop (0 + j) x3)).length = x0 - j := by rw [List.length_take, List.length_drop]; omega
  rw [hm, hl, show min (x0 - j) (x0 + 1 - (j + 1)) = x0 - j by omega]
  simp only [Nat.zero_add]
  have a1 : List.take j (List.take j x3 ++ List.replicate (x0 + 1 - j) z) = List.take j x3 := by
    rw [List.take_append_of_le_length (by rw [List.length_take]; omega), List.take_take, Nat.min_self]
  rw [a1]
  have lj : (List.take j x3).length = j := by rw [List.length_take]; omega
  have a2 : ∀ r : List α, List.take (j + 1) (List.take j x3 ++ List.take 1 [y] ++ r) = List.take j x3 ++ [y] := fun r => by
    rw [List.take_append_of_le_length (by simp; omega), List.take_of_length_le (by simp; omega)]; rfl
  rw [a2, List.take_append_of_le_length (by simp [List.length_take, List.length_drop]; omega), List.take_of_length_le (by simp [List.length_take, List.length_drop]; omega)]
  rw [List.append_assoc, List.singleton_append]
  congr 2
  rw [List.take_take, Nat.min_self, List.drop_take]
theorem ins_rowH {α : Type} (x0 j : Nat) (y z : α) (x3 : List α) (hj : j < x0) (h3 : x0 ≤ List.length x3) :
 (List.take (0 + ((x0 + 1) - 0)) ((List.take (0 + j) ((List.take (0 + (j+1)) (List.take x0 x3 ++ [z])) ++ (List.take (min (List.length (List.take (((x0+1) - 0) - j) (List.drop (0 + j) (List.take x0 x3 ++ [z])))) (((x0+1) - 0) - (j+1))) (List.take (((x0+1) - 0) - j) (List.drop (0 + j) (List.take x0 x3 ++ [z])))) ++ (List.drop ((0 + (j+1)) + (min (List.length (List.take (((x0+1) - 0) - j) (List.drop (0 + j) (List.take x0 x3 ++ [z])))) (((x0+1) - 0) - (j+1)))) (List.take x0 x3 ++ [z])))) ++ (List.take (min 1 (((x0+1) - 0) - j)) [y]) ++ (List.drop ((0 + j) + (min 1 (((x0+1) - 0) - j))) ((List.take (0 + (j+1)) (List.take x0 x3 ++ [z])) ++ (List.take (min (List.length (List.take (((x0+1) - 0) - j) (List.drop (0 + j) (List.take x0 x3 ++ [z])))) (((x0+1) - 0) - (j+1))) (List.take (((x0+1) - 0) - j) (List.drop (0 + j) (List.take x0 x3 ++ [z])))) ++ (List.drop ((0 + (j+1)) + (min (List.length (List.take (((x0+1) - 0) - j) (List.drop (0 + j) (List.take x0 x3 ++ [z])))) (((x0+1) - 0) - (j+1)))) (List.take x0 x3 ++ [z]))))))
  = List.take j x3 ++ y :: List.drop j (List.take x0 x3) := by
  have hm : min 1 (((x0 + 1) - 0) - j) = 1 := by omega
  have hl : (List.take (((x0+1) - 0) - j) (List.drop (0 + j) (List.take x0 x3 ++ [z]))).length = x0 + 1 - j := by rw [List.length_take, List.length_drop, List.length_append, List.length_take, List.length_singleton]; omega
  rw [hm, hl, show min (x0 + 1 - j) (x0 + 1 - 0 - (j + 1)) = x0 - j by omega]
  simp only [Nat.zero_add, Nat.sub_zero]
  have lj : (List.take j x3).length = j := by rw [List.length_take]; omega
  have l0 : (List.take x0 x3).length = x0 := by rw [List.length_take]; omega
  have b1 : List.take (j + 1) (List.take x0 x3 ++ [z]) = List.take (j + 1) x3 := by
    rw [List.take_append_of_le_length (by omega), List.take_take, Nat.min_eq_left (by omega)]
  have b2 : List.take (x0 - j) (List.take (x0 + 1 - j) (List.drop j (List.take x0 x3 ++ [z]))) = List.drop j (List.take x0 x3) := by
    rw [List.take_take, Nat.min_eq_left (by omega), List.drop_append_of_le_length (by omega), List.take_append_of_le_length (by rw [List.length_drop]; omega), List.take_of_length_le (by rw [List.length_drop]; omega)]
  have b3 : List.drop (j + 1 + (x0 - j)) (List.take x0 x3 ++ [z]) = [] := List.drop_eq_nil_of_le (by rw [List.length_append, l0, List.length_singleton]; omega)
  rw [b1, b2, b3, List.append_nil]
  have lj1 : (List.take (j + 1) x3).length = j + 1 := by rw [List.length_take]; omega
  have c1 : List.take j (List.take (j + 1) x3 ++ List.drop j (List.take x0 x3)) = List.take j x3 := by
    rw [List.take_append_of_le_length (by omega), List.take_take, Nat.min_eq_left (by omega)]
  have c2 : List.drop (j + 1) (List.take (j + 1) x3 ++ List.drop j (List.take x0 x3)) = List.drop j (List.take x0 x3) := List.drop_left' lj1
  rw [c1, c2]
  have l1 : (List.drop j (List.take x0 x3)).length = x0 - j := by rw [List.length_drop, l0]
  rw [List.take_of_length_le (by rw [List.length_append, List.length_append, lj, l1]; simp; omega), List.append_assoc]
  rfl
theorem all_dst {l : List Oper} {t : Nat} (h : (l.all fun o => o.dst != some t) = true) : ∀ o ∈ l, o.dst ≠ some t := fun o ho e => by
  have := List.all_eq_true.1 h o ho
  rw [e] at this
  simp at this
theorem plain_all : ∀ {l : List AVal}, ((l.drop 1).all plainA) = true → ∀ t, t ≠ 0 → plainA (nth l t) = true := by
  have key : ∀ (l : List AVal), l.all plainA = true → ∀ t, plainA (nth l t) = true := by
    intro l
    induction l with
    | nil => intro _ t; cases t <;> rfl
    | cons a l ih =>
      intro h t
      rw [List.all_cons, Bool.and_eq_true] at h
      cases t with
      | zero => exact h.1
      | succ t => exact ih h.2 t
  intro l h t ht
  cases l with
  | nil => rfl
  | cons a l => cases t with
    | zero => exact absurd rfl ht
    | succ t => exact key l h t
theorem idx_one {ops : Array Oper} {pre post : List Oper} {o : Oper} (h : ops.toList = pre ++ o :: post) : ops[pre.length]? = some o := by
  rw [list_idx h, List.getElem?_append_right (Nat.le_refl _), Nat.sub_self]; rfl
theorem idx_one' {ops : Array Oper} {pre post : List Oper} {o : Oper} {i : Nat} (h : ops.toList = pre ++ o :: post) (hi : i = pre.length) : ops[i]? = some o := hi ▸ idx_one h
theorem idx_mid {ops : Array Oper} {pre l post : List Oper} (h : ops.toList = pre ++ (l ++ post)) : ∀ (j : Nat) i, (List.range' pre.length l.length)[j]? = some i → ops[i]? = l[j]? := fun j i hj => by
  have hjl := (List.getElem?_eq_some_iff.1 hj).1
  rw [List.length_range'] at hjl
  rw [List.getElem?_range' hjl] at hj
  cases hj
  rw [list_idx h, List.getElem?_append_right (by omega), Nat.one_mul, Nat.add_sub_cancel_left, List.getElem?_append_left hjl]
theorem idx_mid' {ops : Array Oper} {pre l post : List Oper} {q : Nat} (h : ops.toList = pre ++ (l ++ post)) (hq : q = pre.length) : ∀ (j : Nat) i, (List.range' q l.length)[j]? = some i → ops[i]? = l[j]? := hq ▸ idx_mid h
theorem rng (s a r : Nat) : List.range' s (a + r) = List.range' s a ++ List.range' (s + a) r := List.range'_append_1.symm
theorem rng1 (s r : Nat) : List.range' s (1 + r) = s :: List.range' (s + 1) r := by rw [Nat.add_comm, List.range'_succ]
set_option maxHeartbeats 1000000 in
theorem insert_fn (hT : TabOk cx.T P) (hO : NoOther cx.T) (hC : FnsOk P cx) (hm : P.follows .mixedOrders = true) {g : FuncId} {fn : Func} (hf : P.funcs[g]? = some fn)
    {cs : List Code} {id8 id9 id13 id14 : Nat} {ops8 ops9 ops13 ops14 : Array Oper} {G H T : Code} {d31 c14 : Nat}
    (hb : fn.body = some (seqs cs (.seq (.seq (.region id8 ops8 false) (.cond (.tmp d31) (.seq (.region id9 ops9 false) G) .skip)) (.seq (.region id13 ops13 false) (.seq (.seq (.region id14 ops14 false) (.cond (.tmp c14) H .skip)) T)))))
    {ws : List Wk} {fuel k n iN : Nat} {i N kn : Int} {xs ys : List CV} {z : CV} {o : Out} (hn : iN < n) (hys : 0 < ys.length) (hiN : i = iN) (hN : N = n + 1) (hkn : kn = ((n + 1 - iN : Nat) : Int))
    {s1 s2 s3 s4 s7 s8 s9 s10 s11 s13 s14 s16 s17 s18 s20 : St} {s6 : Nat → St} {t tn e : Nat} (ht : P.underlying t = some (.slice e)) (htn : ∃ k, P.underlying tn = some (.int k)) (he : elemOk cx.T e = true) (hsh : shOf cx.T e = some k) (hz : closed s11.nodes (zeroT cx.T e) = some z) (hfit : fitSh (some k) z = true) (hbig : (n + 1) * bytesT cx.T e ≤ 140737488355328)
    {l8 l9 l9b l9c l14 l14b : List Oper} {m8 c8 g8 m9 sl9 ap9 ov : Oper} {dm dc dm9 di9 ds9 dk9 da9 dv dd dq gov off len : Nat} {ki kk : IntKind}
    (h1 : evSeq cx fuel cs ⟨padT fn.ntmps [.osl [1000] (some k) 0 n, .v (.int .i64 i), .sl false (some k) ys], [([1000], .row false (some k) xs)]⟩ some = some s1)
    (h2 : s1.enter cx id8 ops8.toList some = some s2) (h2t : nth s2.tmps 0 = .osl [1000] (some k) 0 n) (h2r : find [1000] s2.nodes = some (.row false (some k) xs)) (p8 : ops8.toList = l8 ++ [m8, c8, g8])
    (h3 : evPs cx l8 s2 some = some s3) (h4 : evOp cx s3 m8 some = some s4) (m8p : pureOp m8 = true) (f8 : ∀ o ∈ l8, o.dst ≠ some 0) (m8o : m8.op = .move (.tmp 0)) (m8d : m8.dst = some dm) (m8n : dm ≠ 0) (hdm : dm < s3.tmps.length)
    (c8o : c8.op = .call { callee := .builtin .cap, args := #[.tmp dm], argTypes := #[t] }) (c8d : c8.dst = some dc) (c8n : dc ≠ 0) (c8g : c8.guard = none)
    (h5 : ∀ c : Nat, evPs cx [g8] (s4.put (some dc) (.v (.int .i64 c))) some = some (s6 c)) (g8n : g8.dst ≠ some 0) (hcond : ∀ c : Nat, (s6 c).eval (.tmp d31) = .v (.bool (decide (N > (c : Int)))))
    (h7 : ∀ c, (s6 c).enter cx id9 ops9.toList some = some s7) (p9 : ops9.toList = m9 :: (l9 ++ sl9 :: (l9b ++ ap9 :: l9c))) (h8 : evOp cx s7 m9 some = some s8) (m9o : m9.op = .move (.tmp 0)) (m9d : m9.dst = some dm9) (m9p : pureOp m9 = true) (hdm9 : dm9 < s7.tmps.length) (f9 : ∀ o ∈ l9, o.dst ≠ some dm9)
    (h9 : evPs cx l9 s8 some = some s9) (h10 : evOp cx s9 sl9 some = some s10) (sl9p : pureOp sl9 = true) (sl9o : sl9.op = .slice t (.tmp dm9) none (some (.tmp di9)) none) (sl9d : sl9.dst = some ds9) (hi9 : nth s9.tmps di9 = .v (.int ki i)) (hds9 : ds9 < s9.tmps.length)
    (h11 : evPs cx l9b s10 some = some s11) (f9b : ∀ o ∈ l9b, o.dst ≠ some ds9) (ap9o : ap9.op = .call { callee := .builtin .append, args := #[.tmp ds9, .tmp dk9], argTypes := #[t, tn] }) (ap9d : ap9.dst = some da9) (ap9g : ap9.guard = none) (hda : da9 < 1000)
    (hk9 : nth s11.tmps dk9 = .v (.int kk kn)) (hs9 : nth s11.tmps ds9 = .osl [1000] (some k) 0 iN) (hr9 : find [1000] s11.nodes = some (.row false (some k) xs)) (hn9 : find [da9] s11.nodes = none)
    (h13 : evGs cx ops9 l9c ((⟨s11.tmps, insN ([da9], .row false (some k) (xs.take iN ++ List.replicate (n + 1 - iN) z)) s11.nodes⟩ : St).put (some da9) (.osl [da9] (some k) 0 (n + 1))) some = some s13)
    (hG : evCode cx fuel G s13 (fun _ => none) (fun _ _ => none) (evRet cx.T ws fn.results.toList) = some o)
    (h14 : ∀ c, (s6 c).enter cx id13 ops13.toList some = some s14) (h14n : s14.nodes = [([1000], .row false (some k) xs)]) (h14t : nth s14.tmps 0 = .osl [1000] (some k) 0 n) (h14l : 0 < s14.tmps.length) (h14p : ∀ t, t ≠ 0 → plainA (nth s14.tmps t) = true)
    (h16 : evGs cx ops13 ops13.toList ⟨setn s14.tmps 0 (.osl [900] (some k) 0 n), [([900], .row false (some k) (xs.take n ++ [.agg (List.replicate k .any)]))]⟩ some = some s16)
    (h17 : s16.enter cx id14 ops14.toList some = some s17) (p14 : ops14.toList = l14 ++ ov :: l14b) (h18 : evPs cx l14 s17 some = some s18)
    {ats : Array TypeId} (ovo : ov.op = .call { callee := .value (.func gov), args := #[.tmp dv, .tmp dd], argTypes := ats }) (ovd : ov.dst = some dq) (ovg : ov.guard = none) (hv18 : nth s18.tmps dv = .sl false (some k) ys) {nm18 : Nm} (hd18 : nth s18.tmps dd = .osl nm18 (some k) off len) {xs14 : List CV} (hr18 : find nm18 s18.nodes = some (.row false (some k) xs14)) (hoff : off < n + 1) (hx14 : xs14.length = n + 1) (hlen : 0 < len)
    {fo : Func} {tR : TypeId} (hgo : P.funcs[gov]? = some fo) (hgn : (fo.name == "runtime.NumGoroutine") = false) (hgb : fo.body.isNone = true) (hgx : Extern.findNext fo = none) (hge : Extern.find fo = some (Extern.SlicesOverlaps.overlaps #[t, t] #[tR]))
    (h20 : evGs cx ops14 l14b (s18.put (some dq) (.v (.bool false))) some = some s20) (h21 : s20.eval (.tmp c14) = .v (.bool true))
    (hH : evCode cx fuel H s20 (fun _ => none) (fun _ _ => none) (evRet cx.T ws fn.results.toList) = some o) (hB : noB o.rv = true ∧ noBN o.nodes = true) :
    FnOk P g [.osl [1000] (some k) 0 n, .v (.int .i64 i), .sl false (some k) ys] [([1000], .row false (some k) xs)] o := by
  refine ⟨hB.1, hB.2, fun fr φ F w vs hw hFr hI => ?_⟩
  refine calls_of_wp hf hb ?_
  generalize hargs : [AVal.osl [1000] (some k) 0 n, .v (.int .i64 i), .sl false (some k) ys] = args at h1 hI
  generalize hns : [([1000], Node.row false (some k) xs)] = ns at h1 hI
  have hl : args.length = vs.length := by simpa using hI.len
  have hI' : Inv fr φ F ⟨padT fn.ntmps args, ns⟩ ⟨vs.toArray ++ Array.replicate (fn.ntmps - vs.toArray.size) undef, []⟩ w := by
    have : vs.toArray ++ Array.replicate (fn.ntmps - vs.toArray.size) undef = (vs ++ List.replicate (fn.ntmps - vs.length) undef).toArray := by simp
    rw [this, padT_eq]
    refine hI.tmps (VRelL.append ⟨hl, fun j c v hc hv => ?_⟩ ⟨by simp [hl], fun j c v hc hv => ?_⟩)
    · have := hI.tm j
      rw [Array.getD_eq_getD_getElem?] at this
      simp only [List.getElem?_toArray, hv, Option.getD_some] at this
      have hj := (List.getElem?_eq_some_iff.1 hc).1
      have e := nth_get hj
      rw [hc] at e
      cases e
      exact this
    · simp only [List.getElem?_replicate] at hc hv
      split at hc
      · cases hc
        split at hv
        · cases hv
          exact .tup rfl (fun j c v hc => by simp at hc)
        · cases hv
      · cases hc
  have hD := drawsOk hT hO hC
  have fin : ∀ φ' F' s' a' w', evRet cx.T ws fn.results.toList s' = some o → Inv fr φ' F' s' a' w' → bodyPost P fn (fun e w' => ∃ v, e = .returned v ∧ ∃ φ' F', Inv fr φ' F' ⟨[o.rv], o.nodes⟩ ⟨#[v], []⟩ w') .ret a' w' := fun φ' F' s' a' w' h' hI' => by
    obtain ⟨_, _, v, g1, φ2, F2, g2⟩ := evRet_sound hT hO hFr hI' h'
    exact ⟨hI'.defers, v, g1, v, rfl, φ2, F2, g2⟩
  refine evSeq_sound hT hO hC hFr hm cs h1 hI' (fun φ1 F1 s1' a1 w1 h' hI1 => ?_)
  cases h'
  obtain ⟨φ2, F2, s2', h2', hI2⟩ := enter_sound hI1 h2
  cases h2'
  -- region 8
  refine wp_seq (wp_seq (wp_region ?_))
  have hlen8 : ops8.size = l8.length + 3 := by rw [← Array.length_toList, p8]; simp
  have hr8 : List.range ops8.size = List.range l8.length ++ [l8.length, l8.length + 1, l8.length + 2] := by
    rw [hlen8, List.range_succ, List.range_succ, List.range_succ]; simp
  rw [hr8]
  obtain ⟨A, c, hv0, hnc⟩ : ∃ A c, a1.eval (.tmp 0) = .slice A n c ∧ n ≤ c := by
    have hx := hI2.tm 0
    rw [h2t] at hx
    show ∃ A c, a1.tmps.getD 0 undef = _ ∧ _
    obtain ⟨hk0, blk, h1n, _⟩ := hI2.nd _ _ (find_mem h2r)
    generalize a1.tmps.getD 0 undef = v at hx
    cases hx with
    | oslD h A n c => rw [h1n] at h; cases h
    | osl h h' =>
      rw [h1n] at h
      cases h
      rcases h' with ⟨A, rfl, rfl, _⟩ | ⟨b, cap, _, rfl, _, _, _⟩ | ⟨e0, _⟩
      rotate_left 2
      · exact absurd e0 (szOf_ne hk0)
      · omega
      · exact ⟨_, _, rfl, by omega⟩
  refine evPs_sound hT hO hC hFr l8 _ (by simp) (fun j i hj => ?_) h3 hI2 (fun s3' a3 h' hI3 hfr3 => ?_)
  · have hjl := (List.getElem?_eq_some_iff.1 hj).1
    rw [List.length_range] at hjl
    rw [List.getElem?_range hjl] at hj
    cases hj
    rw [list_idx p8, List.getElem?_append_left hjl]
  cases h'
  have hv3 : a3.eval (.tmp 0) = .slice A n c := (hfr3 0 f8).trans hv0
  obtain ⟨hg4, s4', v4, h', hrun4, hI4⟩ := evOp_pure hT hO hC hFr hI3 m8p h4
  cases h'
  have := val_inj hrun4 (pure_move m8o)
  rw [hv3] at this
  subst this
  refine wpOps_step (by rw [list_idx p8, List.getElem?_append_right (Nat.le_refl _), Nat.sub_self]; rfl) hg4 hrun4 ?_
  rw [m8d] at hI4 ⊢
  have hdm' : (a3.put (some dm) (.slice A n c)).eval (.tmp dm) = .slice A n c := eval_put_self (by rw [← hI3.len]; exact hdm)
  have hv4 : (a3.put (some dm) (.slice A n c)).eval (.tmp 0) = .slice A n c := (eval_put_ne (fun e => m8n (by cases e; rfl))).trans hv3
  generalize a3.put (some dm) (.slice A n c) = a4 at hI4 hdm' hv4
  have hrun8 : (execOp a4.eval c8).run P w1 = .ok (.value (.int .i64 c)) w1 := by
    obtain ⟨dst, op, ty, pos, aft, gd⟩ := c8
    simp only at c8o
    subst c8o
    simp only [execOp, resolve, Sem.run_bind, Sem.run_pure, Result.andThen_ok, invoke, builtin, List.map_toArray, List.map_cons, List.map_nil, hdm', run_cap ht]
  refine wpOps_step (by rw [list_idx p8, List.getElem?_append_right (by omega), show l8.length + 1 - l8.length = 1 by omega]; rfl) c8g hrun8 ?_
  rw [c8d]
  have hI5 : Inv fr φ2 F2 (s4.put (some dc) (.v (.int .i64 c))) (a4.put (some dc) (.int .i64 c)) w1 := hI4.put (.v (.int _ _)) (some dc)
  have hv5 : (a4.put (some dc) (.int .i64 c)).eval (.tmp 0) = .slice A n c := (eval_put_ne (fun e => c8n (by cases e; rfl))).trans hv4
  generalize a4.put (some dc) (.int .i64 c) = a5 at hI5 hv5
  rw [show [l8.length + 2] = [l8.length + 2] ++ ([] : List Nat) from rfl]
  refine evPs_sound hT hO hC hFr [g8] _ rfl (fun j i hj => ?_) (h5 c) hI5 (fun s6' a6 h' hI6 hfr6 => ?_)
  · cases j with
    | zero =>
      cases hj
      rw [list_idx p8, List.getElem?_append_right (by omega), show l8.length + 2 - l8.length = 2 by omega]; rfl
    | succ j => simp at hj
  cases h'
  have hv6 : a6.eval (.tmp 0) = .slice A n c := (hfr6 0 (fun o ho => by rw [List.mem_singleton] at ho; rw [ho]; exact g8n)).trans hv5
  show Exit.then _ _ .normal a6 w1
  have hc6 := hI6.eval hFr (.tmp d31)
  rw [hcond c] at hc6
  have hc6' : a6.eval (.tmp d31) = .bool (decide (N > (c : Int))) := by
    generalize a6.eval (.tmp d31) = u at hc6
    cases hc6 with | v h => cases h; rfl
  refine wp_cond hc6' ?_
  rcases Nat.lt_or_ge c (n + 1) with hcn | hcn
  · -- no room
    rw [decide_eq_true (by omega)]
    obtain ⟨φ7, F7, s7', h', hI7⟩ := enter_sound hI6 (h7 c)
    cases h'
    refine wp_seq (wp_region ?_)
    have hsz9 : ops9.size = 1 + (l9.length + (1 + (l9b.length + (1 + l9c.length)))) := by rw [← Array.length_toList, p9]; simp; omega
    rw [List.range_eq_range', hsz9, rng1, rng, rng1, rng, rng1]
    obtain ⟨hg8, s8', v8, h', hr8', hI8⟩ := evOp_pure hT hO hC hFr hI7 m9p h8
    cases h'
    have := val_inj hr8' (pure_move m9o)
    rw [hv6] at this
    subst this
    refine wpOps_step (idx_one (pre := []) p9) hg8 hr8' ?_
    rw [m9d] at hI8 ⊢
    have hv8 : (a6.put (some dm9) (.slice A n c)).eval (.tmp dm9) = .slice A n c := eval_put_self (by rw [← hI7.len]; exact hdm9)
    generalize a6.put (some dm9) (.slice A n c) = a8 at hI8 hv8
    refine evPs_sound hT hO hC hFr l9 _ (by simp) (idx_mid (pre := [m9]) (post := sl9 :: (l9b ++ ap9 :: l9c)) (by simp [p9])) h9 hI8 (fun s9' a9 h' hI9 hfr9 => ?_)
    cases h'
    have hv9 := (hfr9 dm9 f9).trans hv8
    have hvi : a9.eval (.tmp di9) = .int ki i := by
      have hx := hI9.tm di9
      rw [hi9] at hx
      show a9.tmps.getD di9 undef = _
      generalize a9.tmps.getD di9 undef = u at hx
      cases hx with | v h => cases h; rfl
    obtain ⟨hg10, s10', v10, h', hr10, hI10⟩ := evOp_pure hT hO hC hFr hI9 sl9p h10
    cases h'
    obtain ⟨inf, zv, i1, i2, i3, i4, i5, i6, i7, i8, i9, i10⟩ := elemOk_spec hT he
    rw [hsh] at i2 i5 i6 i10
    have hsize : ∀ w, (sizeOf e).run P w = .ok (szOf (some k)) w := fun w => by simp [sizeOf, run_typeInfo w i1, i2]
    obtain ⟨A', hrs⟩ : ∃ A', (execOp a9.eval sl9).run P w1 = .ok (.value (.slice A' iN c)) w1 := by
      obtain ⟨dst, op, ty, pos, aft, gd⟩ := sl9
      simp only at sl9o
      subst sl9o
      have := run_sliceAt_slice (P := P) (w := w1) ht hsize A n c none (some (.int ki i)) (l := 0) (h := i) (Int.le_refl _) (by omega) (by omega) (.inl ⟨rfl, rfl⟩) (.inr ⟨_, rfl⟩)
      rw [hiN] at this hvi
      simp only [Int.toNat_natCast, Int.toNat_zero, Nat.sub_zero] at this
      exact ⟨_, by simp only [execOp, Sem.run_bind, hv9, hvi, Option.map_some, Option.map_none, this, Result.andThen_ok, Sem.run_pure]; rfl⟩
    have := val_inj hr10 hrs
    subst this
    refine wpOps_step (idx_one' (pre := m9 :: l9) (post := l9b ++ ap9 :: l9c) (by simp [p9]) (by simp; omega)) hg10 hr10 ?_
    rw [sl9d] at hI10 ⊢
    have hv10 : (a9.put (some ds9) (.slice A' iN c)).eval (.tmp ds9) = .slice A' iN c := eval_put_self (by rw [← hI9.len]; exact hds9)
    generalize a9.put (some ds9) (.slice A' iN c) = a10 at hI10 hv10
    refine evPs_sound hT hO hC hFr l9b _ (by simp) (idx_mid' (pre := m9 :: (l9 ++ [sl9])) (post := ap9 :: l9c) (by simp [p9]) (by simp; omega)) h11 hI10 (fun s11' a11 h' hI11 hfr11 => ?_)
    cases h'
    have hv11 := (hfr11 ds9 f9b).trans hv10
    have hvk : a11.eval (.tmp dk9) = .int kk ((n + 1 - iN : Nat) : Int) := by
      have hx := hI11.tm dk9
      rw [hk9, hkn] at hx
      show a11.tmps.getD dk9 undef = _
      generalize a11.tmps.getD dk9 undef = u at hx
      cases hx with | v h => cases h; rfl
    have hm11 := find_mem hr9
    have hx := hI11.tm ds9
    rw [hs9, show a11.tmps.getD ds9 undef = .slice A' iN c from hv11] at hx
    obtain ⟨hk0, blk, hφ, hbn, _⟩ := hI11.nd _ _ hm11
    obtain ⟨b, rfl, rfl, q1⟩ : ∃ b, blk = some b ∧ A' = some ⟨b, 0, none⟩ ∧ iN ≤ xs.length := by
      cases hx with
      | oslD h => rw [h] at hφ; cases hφ
      | osl h h' =>
        rw [hφ] at h
        cases h
        rcases h' with ⟨A', e, e2, _⟩ | ⟨b, cap, e1, e, g1, g2, g3⟩ | ⟨e0, _⟩
        rotate_left 2
        · exact absurd e0 (szOf_ne hk0)
        · injection e with _ _ e3
          omega
        · cases e
          exact ⟨b, e1, by rw [Nat.zero_mul], by omega⟩
    obtain ⟨_, _, hwb, hlb, cc, hcc, hcell⟩ := (hI11.nd _ _ hm11).rows hφ
    have holds := hcc.take iN q1
    have hcl : (cc.take (iN * szOf (some k))).length = iN * szOf (some k) := by rw [holds.1, List.length_take, Nat.min_eq_left q1]
    have hold : (Builtin.firstCells (szOf (some k)) iN (.slice (some ⟨b, 0, none⟩) iN c)).run P w1.drew = .ok (cc.take (iN * szOf (some k))).toArray w1.drew :=
      run_firstCells_some (P := P) w1.drew _ iN _ iN c _ hcl (fun j u hu => by
        rw [add_none, Nat.zero_add]
        rw [List.getElem?_take] at hu
        split at hu
        · exact hcell j u hu
        · cases hu)
    obtain ⟨kq', htn'⟩ := htn
    have hbig' : (n + 1) * inf.bytes ≤ 140737488355328 := by rw [i3]; exact hbig
    have hn1 : n + 1 ≤ 140737488355328 := by
      have : (n + 1) * 1 ≤ (n + 1) * inf.bytes := Nat.mul_le_mul_left _ i7
      omega
    have hsum : iN + (n + 1 - iN) = n + 1 := by omega
    have hk48 : (n + 1 - iN) * inf.bytes ≤ 281474976710656 := by
      have : (n + 1 - iN) * inf.bytes ≤ (n + 1) * inf.bytes := Nat.mul_le_mul_right _ (by omega)
      omega
    have hrunA := fun ty => run_append_grow_zeros (P := P) w1 t tn ty e inf zv kk kq' ht htn' i1 i4 (some ⟨b, 0, none⟩) iN c (cc.take (iN * szOf (some k))) (by rw [i2]; exact hold) (n + 1 - iN) (by omega) (by rw [i2]; exact i6) (by omega) (by rw [hsum]; omega) hk48 (by rw [hsum]; exact grow_fits hcn hbig')
    rw [hsum] at hrunA
    have hzr : CRel w1 F7 z zv := closed_spec hI11 (fun _ h => h) hz (i8 w1 φ7 F7 fr.B) (fun nm hm => by rw [i9] at hm; simp at hm)
    obtain ⟨hzrow, _⟩ := fitSh_row hfit hzr
    have hzrows := Rows.zeros i6 hzrow (n + 1 - iN)
    have hzc : zv.cells.toList.toArray = zv.cells := by simp
    rw [hzc] at hzrows
    have hrows := holds.append hzrows
    have hzz : Builtin.zeroCells zv.cells (n + 1 - iN) = (Array.range ((n + 1 - iN) * szOf (some k))).map (zv.cells[· % zv.cells.size]!) := by
      unfold Builtin.zeroCells; rw [i5]
    have hge := grownCap_ge w1 (n + 1) c e
    have hxl : (xs.take iN ++ List.replicate (n + 1 - iN) z).length = n + 1 := by rw [List.length_append, List.length_take, List.length_replicate]; omega
    have hszc : ((cc.take (iN * szOf (some k))).toArray ++ Builtin.zeroCells zv.cells (n + 1 - iN) ++ Builtin.zeroCells zv.cells (grownCap w1 (n + 1) c e - (n + 1))).size = grownCap w1 (n + 1) c e * szOf (some k) := by
      rw [Array.size_append, Array.size_append, size_zeroCells, size_zeroCells, i5, List.size_toArray, hcl, ← Nat.add_mul, ← Nat.add_mul]
      congr 1
      omega
    obtain ⟨φ12, hI12⟩ := Inv.layRow (fr := fr) (e := e) (cells := (cc.take (iN * szOf (some k))).toArray ++ Builtin.zeroCells zv.cells (n + 1 - iN) ++ Builtin.zeroCells zv.cells (grownCap w1 (n + 1) c e - (n + 1))) hFr hI11 w1.drew (Stp.drew w1) rfl i6 hn9 hda hrows (fun j u hu => by
      have hj := (List.getElem?_eq_some_iff.1 hu).1
      rw [List.length_append, hcl] at hj
      rw [Array.getElem?_append_left (by rw [Array.size_append, List.size_toArray, hcl, hzz]; simpa using hj), hzz, ← Array.getElem?_toList, Array.toList_append, List.toList_toArray]
      exact hu) (by rw [hszc, hxl]; exact Nat.mul_le_mul_right _ hge) (fun u hu => by
        rw [Array.toList_append, List.mem_append, Array.toList_append, List.mem_append] at hu
        rcases hu with (hu | hu) | hu
        · exact holds.one i6 u (by simpa using hu)
        · exact zeros_one (elemOk_one he w1 i8) (by omega) _ u hu
        · exact zeros_one (elemOk_one he w1 i8) (by omega) _ u hu) (n := n + 1) (cap := grownCap w1 (n + 1) c e) hxl hge (by rw [hszc]; exact Nat.le_refl _)
    refine wpOps_step (v := .slice (some ⟨w1.heap.size, 0, none⟩) (n + 1) (grownCap w1 (n + 1) c e)) (idx_one' (pre := m9 :: (l9 ++ sl9 :: l9b)) (post := l9c) (by simp [p9]) (by simp; omega)) ap9g (w' := w1.drew.alloc (.cells ((cc.take (iN * szOf (some k))).toArray ++ Builtin.zeroCells zv.cells (n + 1 - iN) ++ Builtin.zeroCells zv.cells (grownCap w1 (n + 1) c e - (n + 1))) e)) (by
      obtain ⟨dst, op, ty, pos, aft, gd⟩ := ap9
      simp only at ap9o
      subst ap9o
      simp only [execOp, resolve, Sem.run_bind, Sem.run_pure, Result.andThen_ok, invoke, builtin, List.map_toArray, List.map_cons, List.map_nil, hv11, hvk, hrunA]) ?_
    rw [ap9d]
    rw [← List.append_nil (List.range' _ l9c.length)]
    refine evGs_sound hT hO hC hFr l9c _ (by simp) (idx_mid' (pre := m9 :: (l9 ++ sl9 :: (l9b ++ [ap9]))) (post := []) (by simp [p9]) (by simp; omega)) h13 hI12 (fun φ13 F13 s13' a13 w13 h' hI13 => ?_)
    cases h'
    show Exit.then _ _ .normal a13 w13
    exact evCode_sound hT hO hC hFr hD hm fuel G _ _ _ _ _ φ13 F13 _ w13 hG hI13 (fun φ' F' s' a' w' h' hI' => by cases h') (fun id φ' F' s' a' w' h' hI' => by cases h') (fun φ' F' s' a' w' h' hI' => fin _ _ _ _ _ h' hI')
  · -- room
    rw [decide_eq_false (by omega)]
    refine wp_skip ?_
    obtain ⟨φ14, F14, s14', h', hI14⟩ := enter_sound hI6 (h14 c)
    cases h'
    obtain ⟨φ15, hI15⟩ := Inv.extend hI14 h14n h14t h14l h14p hv6 hcn (by omega)
    show Exit.then _ _ .normal a6 w1
    refine wp_seq (wp_region ?_)
    rw [← List.append_nil (List.range ops13.size), List.range_eq_range', show ops13.size = ops13.toList.length by simp]
    refine evGs_sound hT hO hC hFr ops13.toList _ (by simp) (idx_mid' (pre := []) (post := []) (by simp) rfl) h16 hI15 (fun φ16 F16 s16' a16 w16 h' hI16 => ?_)
    cases h'
    show Exit.then _ _ .normal a16 w16
    obtain ⟨φ17, F17, s17', h', hI17⟩ := enter_sound hI16 h17
    cases h'
    refine wp_seq (wp_seq (wp_region ?_))
    have hsz14 : ops14.size = l14.length + (1 + l14b.length) := by rw [← Array.length_toList, p14]; simp; omega
    rw [List.range_eq_range', hsz14, rng, rng1]
    refine evPs_sound hT hO hC hFr l14 _ (by simp) (idx_mid' (pre := []) (post := ov :: l14b) (by simp [p14]) rfl) h18 hI17 (fun s18' a18 h' hI18 _ => ?_)
    cases h'
    obtain ⟨inf, zv, i1, i2, i3, i4, i5, i6, i7, i8, i9, i10⟩ := elemOk_spec hT he
    rw [hsh] at i2 i5 i6 i10
    have hsize : ∀ w, (sizeOf e).run P w = .ok (szOf (some k)) w := fun w => by simp [sizeOf, run_typeInfo w i1, i2]
    have hxv := hI18.tm dv
    rw [hv18] at hxv
    obtain ⟨vb, vo, vc, vu, hva, hvF, hvcell⟩ := sl_block hxv hys i6
    obtain ⟨tA, kA, hshA, hkA⟩ := shape_of hvcell
    have hm18 := find_mem hr18
    obtain ⟨hk0, blk, hφ, hbn, _⟩ := hI18.nd _ _ hm18
    have hxd := hI18.tm dd
    rw [hd18] at hxd
    obtain ⟨b, capd, rfl, hda', g1, g2, g3⟩ : ∃ b cap, blk = some b ∧ a18.tmps.getD dd undef = .slice (some ⟨b, off * szOf (some k), none⟩) len cap ∧ off + len ≤ xs14.length ∧ xs14.length ≤ off + cap ∧ (off + cap) * szOf (some k) ≤ bsize w16 b := by
      generalize a18.tmps.getD dd undef = v at hxd
      cases hxd with
      | oslD h => rw [h] at hφ; cases hφ
      | osl h h' =>
        rw [hφ] at h
        cases h
        rcases h' with ⟨A', rfl, e2, e3⟩ | ⟨b, cap, e1, e, g1, g2, g3, _⟩ | ⟨e0, _⟩
        rotate_left 2
        · exact absurd e0 (szOf_ne hk0)
        · omega
        · exact ⟨b, cap, e1, e, g1, g2, g3⟩
    obtain ⟨_, _, hwb, hlb, _⟩ := (hI18.nd _ _ hm18).rows hφ
    have hown := hI18.own _ _ b _ hm18 rfl hφ
    have hlt : off * szOf (some k) < bsize w16 b := by
      have : (off + 1) * szOf (some k) ≤ xs14.length * szOf (some k) := Nat.mul_le_mul_right _ (by omega)
      rw [Nat.add_mul, Nat.one_mul] at this
      omega
    obtain ⟨ub, hub⟩ := Option.isSome_iff_exists.1 (hwb.at_ _ hlt).2
    obtain ⟨tB, kB, hshB, hkB⟩ := shape_of hub
    have hsB := shape_size hshB
    have hne : vb ≠ b := fun e => hvF.elim (fun h => hown.1 (e ▸ h)) (fun h => hown.2.1 (e ▸ h))
    have hov := run_overlaps_ne (P := P) w16 t tR e ht (szOf (some k)) hsize ⟨vb, vo, none⟩ ⟨b, off * szOf (some k), none⟩ ys.length vc len capd hne tA tB kA kB hshA hshB hkA (hwb.at_ _ hlt).1 (by rw [← hsB]; exact hwb.mark rfl)
    refine wpOps_step (v := .bool false) (w' := w16) (idx_one' (pre := l14) (post := l14b) (by simp [p14]) (by simp)) ovg (by
      obtain ⟨dst, op, ty, pos, aft, gd⟩ := ov
      simp only at ovo
      subst ovo
      simp only [execOp, resolve, Act.eval, Deferred.ofValue, Sem.run_bind, Sem.run_pure, Result.andThen_ok, invoke, List.map_toArray, List.map_cons, List.map_nil]
      rw [hva, hda', run_callFunc_extern hgo hgn hgb hgx hge, Array.empty_append, Array.append_empty, hov]
      rfl) ?_
    rw [ovd]
    have hI19 : Inv fr φ17 F17 (s18.put (some dq) (.v (.bool false))) (a18.put (some dq) (.bool false)) w16 := hI18.put (.v (.bool false)) (some dq)
    rw [← List.append_nil (List.range' _ l14b.length)]
    refine evGs_sound hT hO hC hFr l14b _ (by simp) (idx_mid' (pre := l14 ++ [ov]) (post := []) (by simp [p14]) (by simp)) h20 hI19 (fun φ20 F20 s20' a20 w20 h' hI20 => ?_)
    cases h'
    show Exit.then _ _ .normal a20 w20
    have hc20 := hI20.eval hFr (.tmp c14)
    rw [h21] at hc20
    have hc20' : a20.eval (.tmp c14) = .bool true := by
      generalize a20.eval (.tmp c14) = u at hc20
      cases hc20 with | v h => cases h; rfl
    refine wp_cond hc20' ?_
    exact evCode_sound hT hO hC hFr hD hm fuel H _ _ _ _ _ φ20 F20 _ w20 hH hI20 (fun φ' F' s' a' w' h' hI' => by cases h') (fun id φ' F' s' a' w' h' hI' => by cases h') (fun φ' F' s' a' w' h' hI' => fin _ _ _ _ _ h' hI')
end
end Go.Proofs.YtlaojkheenobaaaDoorS
