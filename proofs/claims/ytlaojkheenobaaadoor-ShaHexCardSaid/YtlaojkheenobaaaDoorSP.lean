/- The operations that only look. -/
import Derived.Test.YtlaojkheenobaaaDoorSO
namespace Go.Proofs.YtlaojkheenobaaaDoorS
open Go Go.RowKit
set_option linter.unusedVariables false
set_option linter.unusedSimpArgs false
section
variable {X : Type} {P : Program} {T : Tab} {fr : Fr} {φ φ' : Nm → Loc} {F F' B : Nat → Prop} {s : St} {a : Act} {w w' : World} {out : X}
theorem evUn_sound {op : UnOp} {x : AVal} {vx : Value} {K : AVal → Option X} (h : evUn op x K = some out) (hx : VRel w φ F B x vx) :
    ∃ z v, K z = some out ∧ VRel w φ F B z v ∧ (Op.unary op vx).run P w = .ok v w := by
  unfold evUn at h
  split at h
  · obtain rfl := hx.int
    exact ⟨_, _, h, .v (.int _ _), by simp [Op.unary, Op.intArith]⟩
  · obtain rfl := hx.int
    exact ⟨_, _, h, .v (.int _ _), by simp only [Op.unary, Op.intBits, bop]; rfl⟩
  · obtain rfl := hx.bool
    exact ⟨_, _, h, .v (.bool _), by simp [Op.unary]⟩
  · cases h
theorem add_none (b o n : Nat) : (⟨b, o, none⟩ : Addr).add n = ⟨b, o + n, none⟩ := by
  unfold Addr.add
  split
  · next h => subst h; rfl
  · rfl
theorem shEq_iff {x y : Option Nat} (h : shEq x y = true) : x = y := by
  cases x <;> cases y <;> simp_all [shEq, Nat.beq_eq]
/-- What a slice's type says. -/
theorem sliceOf_spec (hT : TabOk T P) {t : Nat} {sh : Option Nat} (h : isSliceOf T t sh = true) : ∃ e, P.underlying t = some (.slice e) ∧ sh = shOf T e ∧ ∀ w, (sizeOf e).run P w = .ok (szOf sh) w := by
  unfold isSliceOf at h
  split at h
  · next e _ _ _ eq =>
    rw [Bool.and_eq_true, Bool.and_eq_true] at h
    have h1 := shEq_iff h.1.1
    have h2 := Nat.eq_of_beq_eq_true h.1.2
    refine ⟨e, hT.td t _ eq, h1, fun w => ?_⟩
    cases hi : T e with
    | none =>
      rw [h1] at h2
      simp [sizeT, hi, shOf, isAggT, szOf] at h2
    | some i => rw [run_size hT hi, h2]
  · cases h
theorem sliceOf_pos {t : Nat} (h : isSliceOf T t (some 0) = true) : False := by
  unfold isSliceOf at h
  split at h
  · rw [Bool.and_eq_true] at h
    exact absurd h.2 (by decide)
  · cases h
theorem sliceT_spec (hT : TabOk T P) {t : Nat} (h : isSliceT T t = true) : ∃ e, P.underlying t = some (.slice e) ∧ ∃ n, ∀ w, (sizeOf e).run P w = .ok n w := by
  unfold isSliceT at h
  split at h
  · next e _ _ _ eq =>
    have h2 := Nat.le_of_ble_eq_true h
    cases hi : T e with
    | none => simp [sizeT, hi] at h2
    | some i => exact ⟨e, hT.td t _ eq, _, fun w => run_size hT hi w⟩
  · cases h
theorem strT_spec (hT : TabOk T P) {t : Nat} (h : isStrT T t = true) : P.underlying t = some .string := by
  unfold isStrT at h
  split at h
  · next eq => exact hT.td t _ eq
  · cases h
theorem asIO_some {lo : Option AVal} {vlo : Option Value} {d : Int} {K : Int → Option X} (h : asIO lo d K = some out) (hlo : ∀ x, lo = some x → ∃ v, vlo = some v ∧ VRel w φ F B x v) (hn : lo = none → vlo = none) :
    ∃ l, K l = some out ∧ ((vlo = none ∧ l = d) ∨ ∃ k, vlo = some (.int k l)) := by
  cases lo with
  | none => exact ⟨d, h, .inl ⟨hn rfl, rfl⟩⟩
  | some x =>
    obtain ⟨v, rfl, hv⟩ := hlo x rfl
    obtain ⟨k, n, rfl, hk⟩ := asI_some h hv
    exact ⟨n, hk, .inr ⟨k, rfl⟩⟩
theorem bnd_some {l h n : Int} {k : Option X} (e : bnd l h n k = some out) : 0 ≤ l ∧ l ≤ h ∧ h ≤ n ∧ k = some out := by
  obtain ⟨h1, e⟩ := grd_some e
  obtain ⟨h2, e⟩ := grd_some e
  obtain ⟨h3, e⟩ := grd_some e
  exact ⟨of_decide_eq_true h1, of_decide_eq_true h2, of_decide_eq_true h3, e⟩
theorem run_bounds (isSlice : Bool) (len cap : Nat) (vlo vhi : Option Value) {l h : Int} (h0 : 0 ≤ l) (h1 : l ≤ h) (h2 : h ≤ cap) (hl : (vlo = none ∧ l = 0) ∨ ∃ k, vlo = some (.int k l)) (hh : (vhi = none ∧ h = len) ∨ ∃ k, vhi = some (.int k h)) :
    (Instr.sliceBounds isSlice len cap vlo vhi none).run P w = .ok (l.toNat, h.toNat, cap) w := by
  have e1 : ∀ (v : Option Value) (m : Nat) (c : BoundsCode) (d : Nat), ((v = none ∧ h = d) ∨ ∃ k, v = some (.int k h)) → h ≤ m → (match v with | some v => Instr.sliceBound v m c | none => pure d : Sem Nat).run P w = .ok h.toNat w := by
    intro v m c d hv hm
    rcases hv with ⟨rfl, hd⟩ | ⟨k, rfl⟩
    · simp; omega
    · have : 0 ≤ h ∧ h ≤ (m : Int) := ⟨by omega, hm⟩
      simp only [Instr.sliceBound, asIntOf, Sem.run_bind, Sem.run_pure, Result.andThen_ok]
      rw [if_pos this]
      rfl
  have e2 : ∀ (v : Option Value) (c : BoundsCode), ((v = none ∧ l = 0) ∨ ∃ k, v = some (.int k l)) → (match v with | some v => Instr.sliceBound v h.toNat c | none => pure 0 : Sem Nat).run P w = .ok l.toNat w := by
    intro v c hv
    rcases hv with ⟨rfl, hd⟩ | ⟨k, rfl⟩
    · simp; omega
    · have : 0 ≤ l ∧ l ≤ (h.toNat : Int) := ⟨by omega, by omega⟩
      simp only [Instr.sliceBound, asIntOf, Sem.run_bind, Sem.run_pure, Result.andThen_ok]
      rw [if_pos this]
      rfl
  unfold Instr.sliceBounds
  rcases hh with ⟨rfl, hd⟩ | ⟨k, rfl⟩
  · have := e2 vlo (.sliceB) hl
    rcases hl with ⟨rfl, hd'⟩ | ⟨k', rfl⟩
    · simp; omega
    · simp only [Sem.run_bind, Sem.run_pure, Result.andThen_ok]
      have e3 : len = h.toNat := by omega
      rw [e3]
      simp only [Option.isSome_none, Bool.false_eq_true, if_false]
      simp only at this
      rw [this]
      rfl
  · have := e2 vlo (.sliceB) hl
    have h3 := e1 (some (.int k h)) cap (if isSlice then .sliceAcap else .sliceAlen) len (.inr ⟨k, rfl⟩) (by omega)
    simp only at h3
    rcases hl with ⟨rfl, hd'⟩ | ⟨k', rfl⟩
    · simp only [Sem.run_bind, Sem.run_pure, Result.andThen_ok, h3]
      simp; omega
    · simp only [Sem.run_bind, Sem.run_pure, Result.andThen_ok, h3]
      simp only [Option.isSome_none, Bool.false_eq_true, if_false]
      simp only at this
      rw [this]
      rfl
theorem slice_get (xs : List CV) (l n i : Nat) (x : CV) (h : ((xs.drop l).take n)[i]? = some x) : xs[l + i]? = some x ∧ i < n := by
  rw [List.getElem?_take] at h
  split at h
  · next hi => rw [List.getElem?_drop] at h; exact ⟨h, hi⟩
  · cases h
theorem slice_len (xs : List CV) (l h : Nat) (h1 : l ≤ h) (h2 : h ≤ xs.length) : ((xs.drop l).take (h - l)).length = h - l := by
  rw [List.length_take, List.length_drop]; omega
/-- A part of a row that is read. -/
theorem RowRel.part {G : Nat → Prop} {sh : Option Nat} {xs : List CV} {A : Option Addr} {c l h : Nat} (hr : RowRel w F G sh xs (.slice A xs.length c)) (h1 : l ≤ h) (h2 : h ≤ xs.length) :
    RowRel w F G sh ((xs.drop l).take (h - l)) (.slice (if c = l then A else A.map (·.add (l * szOf sh))) (h - l) (c - l)) := by
  obtain ⟨A', c', e, hc, hr⟩ := hr
  cases e
  refine ⟨_, _, by rw [slice_len xs l h h1 h2], by rw [slice_len xs l h h1 h2]; omega, fun h0 => ?_⟩
  rw [slice_len xs l h h1 h2] at h0
  obtain ⟨b, o, rfl, hb, he⟩ := hr (by omega)
  rw [if_neg (by omega)]
  refine ⟨b, o + l * szOf sh, by simp [add_none], hb, fun i x hx => ?_⟩
  obtain ⟨hx, hi⟩ := slice_get _ _ _ _ _ hx
  have := he (l + i) x hx
  rwa [Nat.add_mul, ← Nat.add_assoc] at this
theorem run_sliceAt_slice {t e : TypeId} (hu : P.underlying t = some (.slice e)) {n : Nat} (hsz : ∀ w, (sizeOf e).run P w = .ok n w) (A : Option Addr) (len cap : Nat) (vlo vhi : Option Value) {l h : Int} (h0 : 0 ≤ l) (h1 : l ≤ h) (h2 : h ≤ cap)
    (hl : (vlo = none ∧ l = 0) ∨ ∃ k, vlo = some (.int k l)) (hh : (vhi = none ∧ h = len) ∨ ∃ k, vhi = some (.int k h)) :
    (Instr.sliceAt t (.slice A len cap) vlo vhi none).run P w = .ok (.slice (if cap = l.toNat then A else A.map (·.add (l.toNat * n))) (h.toNat - l.toNat) (cap - l.toNat)) w := by
  unfold Instr.sliceAt
  simp only [Sem.run_bind, run_underlying hu, Result.andThen_ok, Instr.slice, run_bounds (P := P) (w := w) true len cap vlo vhi h0 h1 h2 hl hh, hsz, Sem.run_pure]
theorem run_sliceAt_arr {t m e : TypeId} (hu : P.underlying t = some (.array m e)) {n : Nat} (hsz : ∀ w, (sizeOf e).run P w = .ok n w) (a : Addr) (vlo vhi : Option Value) {l h : Int} (h0 : 0 ≤ l) (h1 : l ≤ h) (h2 : h ≤ m)
    (hl : (vlo = none ∧ l = 0) ∨ ∃ k, vlo = some (.int k l)) (hh : (vhi = none ∧ h = m) ∨ ∃ k, vhi = some (.int k h)) :
    (Instr.sliceAt t (.pointer (some a)) vlo vhi none).run P w = .ok (.slice (some (if m = l.toNat then a else a.add (l.toNat * n))) (h.toNat - l.toNat) (m - l.toNat)) w := by
  unfold Instr.sliceAt
  simp only [Sem.run_bind, run_underlying hu, Result.andThen_ok, Instr.sureAddr, run_bounds (P := P) (w := w) false m m vlo vhi h0 h1 h2 hl hh, hsz, Sem.run_pure]
theorem run_sliceAt_max {t e : TypeId} (hu : P.underlying t = some (.slice e)) {n : Nat} (hsz : ∀ w, (sizeOf e).run P w = .ok n w) (A : Option Addr) (len cap : Nat) (vlo vhi vmx : Option Value) {l h m : Int} (h0 : 0 ≤ l) (h1 : l ≤ h) (h2 : h ≤ m) (h3 : m ≤ cap)
    (hl : (vlo = none ∧ l = 0) ∨ ∃ k, vlo = some (.int k l)) (hh : ∃ k, vhi = some (.int k h)) (hm : ∃ k, vmx = some (.int k m)) :
    (Instr.sliceAt t (.slice A len cap) vlo vhi vmx).run P w = .ok (.slice (if m.toNat = l.toNat then A else A.map (·.add (l.toNat * n))) (h.toNat - l.toNat) (m.toNat - l.toNat)) w := by
  obtain ⟨kh, rfl⟩ := hh
  obtain ⟨km, rfl⟩ := hm
  have b : ∀ (k : IntKind) (x : Int) (q : Nat) (c : BoundsCode), 0 ≤ x → x ≤ (q : Int) → (Instr.sliceBound (.int k x) q c).run P w = .ok x.toNat w := by
    intro k x q c g1 g2
    simp only [Instr.sliceBound, asIntOf, Sem.run_bind, Sem.run_pure, Result.andThen_ok]
    rw [if_pos ⟨g1, g2⟩]
    rfl
  have hb : (Instr.sliceBounds true len cap vlo (some (.int kh h)) (some (.int km m))).run P w = .ok (l.toNat, h.toNat, m.toNat) w := by
    unfold Instr.sliceBounds
    rcases hl with ⟨rfl, rfl⟩ | ⟨k', rfl⟩
    · simp only [Sem.run_bind, Sem.run_pure, Result.andThen_ok, b km m cap _ (by omega) h3, b kh h m.toNat _ (by omega) (by omega)]
      rfl
    · simp only [Sem.run_bind, Sem.run_pure, Result.andThen_ok, b km m cap _ (by omega) h3, b kh h m.toNat _ (by omega) (by omega), b k' l h.toNat _ h0 (by omega)]
  unfold Instr.sliceAt
  simp only [Sem.run_bind, run_underlying hu, Result.andThen_ok, Instr.slice, hb, hsz, Sem.run_pure]
theorem aliveN_spec (h : Inv fr φ F s a w) {nm : Nm} (ha : aliveN s.nodes nm = true) : ∃ b k, φ nm = .at_ b k := by
  unfold aliveN at ha
  split at ha
  · next e => obtain ⟨_, blk, h1, _⟩ := h.nd nm _ (find_mem e); exact ⟨_, _, h1⟩
  · next e => obtain ⟨b, h1, _⟩ := h.nd nm _ (find_mem e); exact ⟨_, _, h1⟩
  · cases ha
theorem evSlice_sound (hT : TabOk T P) (hI : Inv fr φ F s a w) {t : Nat} {x : AVal} {vx : Value} {lo hi mx : Option AVal} {vlo vhi vmx : Option Value} {K : AVal → Option X} (h : evSlice T s.nodes t x lo hi mx K = some out) (hx : VRel w φ F fr.B x vx)
    (hlo : ∀ x, lo = some x → ∃ v, vlo = some v ∧ VRel w φ F fr.B x v) (hlo0 : lo = none → vlo = none) (hhi : ∀ x, hi = some x → ∃ v, vhi = some v ∧ VRel w φ F fr.B x v) (hhi0 : hi = none → vhi = none) (hmx : ∀ x, mx = some x → ∃ v, vmx = some v ∧ VRel w φ F fr.B x v) (hmx0 : mx = none → vmx = none) :
    ∃ z v, K z = some out ∧ VRel w φ F fr.B z v ∧ (Instr.sliceAt t vx vlo vhi vmx).run P w = .ok v w := by
  unfold evSlice at h
  split at h
  · next b =>
    obtain rfl := hx.str
    obtain rfl := hmx0 rfl
    replace h := grd_some h
    obtain ⟨h1, h⟩ := h
    have hu := strT_spec hT h1
    replace h := asIO_some h hlo hlo0
    obtain ⟨l, h, hl⟩ := h
    replace h := asIO_some h hhi hhi0
    obtain ⟨q, h, hq⟩ := h
    replace h := bnd_some h
    obtain ⟨g0, g1, g2, h⟩ := h
    refine ⟨_, _, h, .v (.str _), ?_⟩
    unfold Instr.sliceAt
    simp only [Sem.run_bind, run_underlying hu, Result.andThen_ok, Instr.slice, run_bounds (P := P) (w := w) false b.size b.size vlo vhi g0 g1 g2 hl hq, Sem.run_pure, Option.isSome_none, Bool.false_eq_true, if_false]
  · next p sh xs =>
    obtain rfl := hmx0 rfl
    cases hx with | sl hr =>
    replace h := grd_some h
    obtain ⟨h1, h⟩ := h
    obtain ⟨e, hu, _, hsz⟩ := sliceOf_spec hT h1
    replace h := asIO_some h hlo hlo0
    obtain ⟨l, h, hl⟩ := h
    replace h := asIO_some h hhi hhi0
    obtain ⟨q, h, hq⟩ := h
    replace h := bnd_some h
    obtain ⟨g0, g1, g2, h⟩ := h
    obtain ⟨A, c, rfl, hc, hr'⟩ := hr
    exact ⟨_, _, h, .sl (RowRel.part ⟨A, c, rfl, hc, hr'⟩ (by omega) (by omega)), run_sliceAt_slice hu hsz A xs.length c vlo vhi g0 g1 (by omega) hl hq⟩
  · next sh xs =>
    obtain rfl := hmx0 rfl
    cases hx with | v hr =>
    replace h := grd_some h
    obtain ⟨h1, h⟩ := h
    obtain ⟨e, hu, _, hsz⟩ := sliceOf_spec hT h1
    replace h := asIO_some h hlo hlo0
    obtain ⟨l, h, hl⟩ := h
    replace h := asIO_some h hhi hhi0
    obtain ⟨q, h, hq⟩ := h
    replace h := bnd_some h
    obtain ⟨g0, g1, g2, h⟩ := h
    obtain ⟨A, c, rfl, hc, hr'⟩ := hr.row
    refine ⟨_, _, h, .sl ((RowRel.part ⟨A, c, rfl, hc, hr'⟩ (by omega) (by omega)).mono (fun _ hk => hk) (fun _ hk => .inl hk) (fun _ _ => rfl) (fun _ _ => rfl)), run_sliceAt_slice hu hsz A xs.length c vlo vhi g0 g1 (by omega) hl hq⟩
  · next sh =>
    obtain rfl := hmx0 rfl
    cases hx with | nil0 A =>
    replace h := grd_some h
    obtain ⟨h1, h⟩ := h
    obtain ⟨e, hu, n, hsz⟩ := sliceT_spec hT h1
    replace h := asIO_some h hlo hlo0
    obtain ⟨l, h, hl⟩ := h
    replace h := asIO_some h hhi hhi0
    obtain ⟨q, h, hq⟩ := h
    replace h := bnd_some h
    obtain ⟨g0, g1, g2, h⟩ := h
    have e1 : l = 0 := by omega
    have e2 : q = 0 := by omega
    subst e1 e2
    exact ⟨_, _, h, .nil0 A, by simpa using run_sliceAt_slice (w := w) hu hsz A 0 0 vlo vhi (l := 0) (h := 0) (by omega) (by omega) (by omega) hl hq⟩
  · next nm sh off len =>
    obtain rfl := hmx0 rfl
    have fin : ∀ {xs : List CV} {fz : Bool} {sh' : Option Nat} {l q : Int} {z : AVal} (hf : find nm s.nodes = some (.row fz sh' xs)) (h1 : isSliceOf T t sh = true) (g0 : 0 ≤ l) (g1 : l ≤ q) (g2 : q ≤ (xs.length : Int) - off ∨ (vhi = none ∧ q = len)) (hl : (vlo = none ∧ l = 0) ∨ ∃ k, vlo = some (.int k l)) (hq : (vhi = none ∧ q = len) ∨ ∃ k, vhi = some (.int k q)),
        ∃ v, VRel w φ F fr.B (.osl nm sh (off + l.toNat) (q.toNat - l.toNat)) v ∧ (Instr.sliceAt t vx vlo vhi none).run P w = .ok v w := by
      intro xs fz sh' l q z hf h1 g0 g1 g2 hl hq
      obtain ⟨e, hu, _, hsz⟩ := sliceOf_spec hT h1
      obtain ⟨_, blk, hb, _⟩ := hI.nd nm _ (find_mem hf)
      cases hx with
      | oslD hd => rw [hb] at hd; cases hd
      | osl hp ho =>
        rw [hb] at hp
        cases hp
        rcases ho with ⟨A, rfl, rfl, hn⟩ | ⟨b', cap, rfl, rfl, h2, h3, h4, h5⟩ | ⟨rfl, _⟩
        rotate_left 2
        · exact (sliceOf_pos h1).elim
        · have e1 : l = 0 := by rcases g2 with g2 | ⟨_, g2⟩ <;> omega
          have e2 : q = 0 := by rcases g2 with g2 | ⟨_, g2⟩ <;> omega
          subst e1 e2
          exact ⟨_, .osl hb (.inl ⟨A, rfl, rfl, by simpa using hn⟩), by simpa using run_sliceAt_slice (w := w) hu hsz A 0 0 vlo vhi (l := 0) (h := 0) (by omega) (by omega) (by omega) hl hq⟩
        · have g2 : q ≤ (xs.length : Int) - off := by rcases g2 with g2 | ⟨_, g2⟩ <;> omega
          refine ⟨_, .osl hb ?_, run_sliceAt_slice hu hsz _ len cap vlo vhi g0 g1 (by omega) hl hq⟩
          by_cases hc : cap = l.toNat
          · refine .inl ⟨some ⟨b', off * szOf sh, none⟩, ?_, by omega, by omega⟩
            rw [if_pos hc]
            have : q.toNat - l.toNat = 0 := by omega
            rw [this]
            have : cap - l.toNat = 0 := by omega
            rw [this]
          · refine .inr (.inl ⟨b', cap - l.toNat, rfl, ?_, by omega, by omega, ?_, h5⟩)
            · rw [if_neg hc, Nat.add_mul]
              simp [add_none]
            · have : off + l.toNat + (cap - l.toNat) = off + cap := by omega
              rw [this]; exact h4
    split at h
    · next fz sh' xs hf =>
      replace h := grd_some h
      obtain ⟨h1, h⟩ := h
      replace h := asIO_some h hlo hlo0
      obtain ⟨l, h, hl⟩ := h
      split at h
      · obtain rfl := hhi0 rfl
        replace h := bnd_some h
        obtain ⟨g0, g1, g2, h⟩ := h
        obtain ⟨v, k1, k2⟩ := fin (z := .undef) hf h1 g0 g1 (.inr ⟨rfl, rfl⟩) hl (.inl ⟨rfl, rfl⟩)
        exact ⟨_, v, h, by simpa using k1, k2⟩
      · next hi' =>
        obtain ⟨vh, rfl, hvh⟩ := hhi _ rfl
        obtain ⟨k, q, rfl, h⟩ := asI_some h hvh
        replace h := bnd_some h
        obtain ⟨g0, g1, g2, h⟩ := h
        obtain ⟨v, k1, k2⟩ := fin (z := .undef) hf h1 g0 g1 (.inl g2) hl (.inr ⟨_, rfl⟩)
        exact ⟨_, v, h, k1, k2⟩
    · cases h
  · next nm sz q j =>
    obtain rfl := hmx0 rfl
    split at h
    · next n e _ _ _ fz xs ht hf =>
      replace h := grd_some h
      obtain ⟨h1, h⟩ := h
      rw [Bool.and_eq_true, Bool.and_eq_true] at h1
      have hs1 := Nat.eq_of_beq_eq_true h1.1.1
      have hs2 := Nat.eq_of_beq_eq_true h1.1.2
      subst hs1
      have hu : P.underlying t = some (.array n e) := hT.td t _ ht
      have hsz : ∀ w, (sizeOf e).run P w = .ok 1 w := fun w => by
        cases hi : T e with
        | none => simp [sizeT, hi] at hs2
        | some i => rw [run_size hT hi, hs2]
      replace h := asIO_some h hlo hlo0
      obtain ⟨l, h, hl⟩ := h
      replace h := asIO_some h hhi hhi0
      obtain ⟨r, h, hr⟩ := h
      replace h := bnd_some h
      obtain ⟨g0, g1, g2, h⟩ := h
      replace h := grd_some h
      obtain ⟨g3, h⟩ := h
      have g3 := of_decide_eq_true g3
      obtain ⟨_, blk, hb, _⟩ := hI.nd nm _ (find_mem hf)
      cases hx with
      | ptrD hd => rw [hb] at hd; cases hd
      | @ptr _ _ _ _ b _ hp =>
        rw [hb] at hp
        cases hp
        refine ⟨_, _, h, .osl hb (.inr (.inr ⟨rfl, _, _, rfl, by omega, by omega, fun hc => ⟨_, rfl, ?_⟩⟩)), run_sliceAt_arr hu hsz _ vlo vhi g0 g1 g2 hl hr⟩
        have hne : ¬ n = l.toNat := by omega
        rw [if_neg hne]
        simp [add_none]
    · cases h
  · next nm sh off len mx' =>
    split at h
    · next fz sh' xs hi' hf =>
      obtain ⟨vm, rfl, hvm⟩ := hmx _ rfl
      obtain ⟨vh, rfl, hvh⟩ := hhi _ rfl
      replace h := grd_some h
      obtain ⟨h1, h⟩ := h
      obtain ⟨e, hu, _, hsz⟩ := sliceOf_spec hT h1
      replace h := asIO_some h hlo hlo0
      obtain ⟨l, h, hl⟩ := h
      obtain ⟨kq, q, rfl, h⟩ := asI_some h hvh
      obtain ⟨km, m, rfl, h⟩ := asI_some h hvm
      replace h := bnd_some h
      obtain ⟨g0, g1, g2, h⟩ := h
      replace h := grd_some h
      obtain ⟨g3, h⟩ := h
      have g3 := of_decide_eq_true g3
      obtain ⟨_, blk, hb, _⟩ := hI.nd nm _ (find_mem hf)
      cases hx with
      | oslD hd => rw [hb] at hd; cases hd
      | osl hp ho =>
        rw [hb] at hp
        cases hp
        obtain ⟨A, nn, c, rfl, hcc, hw2⟩ : ∃ A nn c, vx = .slice A nn c ∧ (xs.length : Int) - off ≤ c ∧ ((xs.length : Int) - off ≤ 0 ∨ ∃ b', A = some ⟨b', off * szOf sh, none⟩ ∧ blk = some b' ∧ (off + c) * szOf sh ≤ bsize w b') := by
          rcases ho with ⟨A, rfl, rfl, hn⟩ | ⟨b', cap, rfl, rfl, h2, h3, h4, h5⟩ | ⟨rfl, _⟩
          rotate_left 2
          · exact (sliceOf_pos h1).elim
          · exact ⟨A, 0, 0, rfl, by omega, .inl (by omega)⟩
          · exact ⟨_, _, cap, rfl, by omega, .inr ⟨b', rfl, rfl, h4⟩⟩
        have hv := run_sliceAt_max (P := P) (w := w) hu hsz A nn c vlo _ _ g0 g1 g2 (by omega) hl ⟨kq, rfl⟩ ⟨km, rfl⟩
        cases hd : decide (m = (xs.length : Int) - (off : Int)) with
        | false =>
          rw [hd] at h
          exact ⟨_, _, h, .undef _, hv⟩
        | true =>
          rw [hd] at h
          have hd := of_decide_eq_true hd
          refine ⟨_, _, h, .osl hb ?_, hv⟩
          by_cases hc : m.toNat = l.toNat
          · refine .inl ⟨A, ?_, by omega, by omega⟩
            rw [if_pos hc]
            have e1 : q.toNat - l.toNat = 0 := by omega
            have e2 : m.toNat - l.toNat = 0 := by omega
            rw [e1, e2]
          · rcases hw2 with hw2 | ⟨b', rfl, rfl, h4⟩
            · exact absurd (show m.toNat = l.toNat by omega) hc
            · refine .inr (.inl ⟨b', m.toNat - l.toNat, rfl, ?_, by omega, by omega, ?_, fun e0 => by subst e0; exact sliceOf_pos h1⟩)
              · rw [if_neg hc, Nat.add_mul]
                simp [add_none]
              · refine Nat.le_trans (Nat.mul_le_mul_right _ ?_) h4
                omega
    · cases h
  · next p sh xs mx' =>
    split at h
    · next hi' =>
      obtain ⟨vm, rfl, hvm⟩ := hmx _ rfl
      obtain ⟨vh, rfl, hvh⟩ := hhi _ rfl
      replace h := grd_some h
      obtain ⟨h1, h⟩ := h
      obtain ⟨e, hu, _, hsz⟩ := sliceOf_spec hT h1
      replace h := asIO_some h hlo hlo0
      obtain ⟨l, h, hl⟩ := h
      obtain ⟨kq, q, rfl, h⟩ := asI_some h hvh
      obtain ⟨km, m, rfl, h⟩ := asI_some h hvm
      replace h := bnd_some h
      obtain ⟨g0, g1, g2, h⟩ := h
      replace h := grd_some h
      obtain ⟨g3, h⟩ := h
      have g3 := of_decide_eq_true g3
      cases hx with | sl hr =>
      obtain ⟨A, c, rfl, hc, hr'⟩ := hr
      have hv := run_sliceAt_max (P := P) (w := w) hu hsz A xs.length c vlo _ _ g0 g1 g2 (by omega) hl ⟨kq, rfl⟩ ⟨km, rfl⟩
      exact ⟨_, _, h, .undef _, hv⟩
    · cases h
  · cases h
end
end Go.Proofs.YtlaojkheenobaaaDoorS
