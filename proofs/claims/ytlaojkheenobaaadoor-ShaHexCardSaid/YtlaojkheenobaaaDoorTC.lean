/- An operation. -/
import Derived.Test.YtlaojkheenobaaaDoorTX
import Derived.Lib.OthersKept
import Derived.Laws.BytesArg
import Derived.Laws.IdiomStrings
import Derived.LaidEqlPtr
namespace Go.Proofs.YtlaojkheenobaaaDoorS
open Go Go.RowKit
set_option linter.unusedVariables false
set_option linter.unusedSimpArgs false
/-- All answers of functions are theirs. -/
structure FnsOk (P : Program) (cx : Cx) : Prop where
  fns : ∀ (X : Type) g as ns (K : Out → Option X) x, cx.C X g as ns K = some x → ∃ o, FnOkX P g as ns o ∧ K o = some x
  cmp : ∀ t, cx.cmp t = true → CmpOk P t
section
variable {X : Type} {P : Program} {cx : Cx} {fr : Fr} {φ φ' : Nm → Loc} {F F' B B' : Nat → Prop} {s : St} {a : Act} {w w' : World} {out : X} {o : Oper} {next : Act → World → Prop} {Q : Exit → Act → World → Prop}
theorem wp_value {v : Value} (hrun : (execOp a.eval o).run P w = .ok (.value v) w') (h : next (a.put o.dst v) w') : o.wp P a w next Q := by
  unfold Oper.wp; rw [hrun]; exact h
theorem wp_skip' (hrun : (execOp a.eval o).run P w = .ok .skip w') (h : next (a.put o.dst undef) w') : o.wp P a w next Q := by
  unfold Oper.wp; rw [hrun]; exact h
theorem wp_enter {f : FuncId} {args : Array Value} (hrun : (execOp a.eval o).run P w = .ok (.enter f args) w) (h : Calls P f args w fun e w' => ∃ v, e = .returned v ∧ next (a.put o.dst v) w') : o.wp P a w next Q := by
  unfold Oper.wp; rw [hrun]
  exact h.mono fun e w' ⟨v, he, hn⟩ => by subst he; exact hn
theorem ptrOkT_spec (hT : TabOk cx.T P) {t : Nat} (h : ptrOkT cx.T t = true) : ∃ e inf, P.underlying t = some (.pointer e) ∧ P.info? e = some inf := by
  unfold ptrOkT at h
  split at h
  · next e sz by_ z eq =>
    split at h
    · next i hi =>
      obtain ⟨inf, _, h1, _⟩ := hT.info e i hi
      exact ⟨e, inf, hT.td t _ eq, h1⟩
    · cases h
  · cases h
theorem run_neq_ptr_same {tp te : TypeId} {j : TypeInfo} (w : World) (a : Addr) (hp : P.underlying tp = some (.pointer te)) (hte : P.info? te = some j) :
    (binOp .neq tp (.pointer (some a)) (.pointer (some a))).run P w = .ok (.bool false) w := by
  have h : ∀ d : Nat, (Op.equalIn (d + 1) tp (.pointer (some a)) (.pointer (some a))).run P w = .ok true w := fun d => by
    simp [Op.equalIn, run_underlying hp, sizeOf, typeInfo, hte, run_sameAddr_same]
  simp only [binOp]
  simp [Op.equal, Op.maxDepth, h 9999]
theorem evBinN_sound (hT : TabOk cx.T P) (hO : NoOther cx.T) {cmp : Nat → Bool} (hc : ∀ t, cmp t = true → CmpOk P t) (hI : Inv fr φ F s a w) {op : BinOp} {t : Nat} {x y : AVal} {vx vy : Value} {K : AVal → Option X} (h : evBinN cx.T cmp s.nodes op t x y K = some out) (hx : VRel w φ F fr.B x vx) (hy : VRel w φ F fr.B y vy) (xo yo : Operand) :
    ∃ z v, K z = some out ∧ VRel w φ F fr.B z v ∧ (do eqGuard op t xo yo vx vy; binOp op t vx vy : Sem Value).run P w = .ok v w := by
  unfold evBinN at h
  cases e : (isPV x && isPV y) with
  | false => rw [e] at h; exact evBin2_sound hT hO hc h hx hy xo yo
  | true =>
    rw [e] at h
    have h0 : evPP cx.T s.nodes op t x y K = some out := h
    clear h
    unfold evPP at h0
    obtain ⟨g1, h5⟩ := grd_some h0
    clear h0
    rw [Bool.and_eq_true, Bool.and_eq_true] at g1
    obtain ⟨te, inf, hu, hi⟩ := ptrOkT_spec hT g1.1.1
    cases x with
    | ptr nm sz i j =>
      cases y with
      | ptr nm' sz' i' j' =>
        have g2 : (nmEq nm nm' && Nat.beq sz sz' && Nat.beq i i' && Nat.beq j j') = true := g1.2
        simp only [Bool.and_eq_true] at g2
        have e1 := nmEq_iff.1 g2.1.1.1
        have e2 := Nat.eq_of_beq_eq_true g2.1.1.2
        have e3 := Nat.eq_of_beq_eq_true g2.1.2
        have e4 := Nat.eq_of_beq_eq_true g2.2
        subst e1 e2 e3 e4
        obtain ⟨b, k, hb⟩ := aliveN_spec hI g1.1.2
        obtain ⟨A, rfl, rfl⟩ : ∃ A, vx = .pointer (some A) ∧ vy = .pointer (some A) := by
          cases hx with
          | ptrD hd A => rw [hb] at hd; cases hd
          | ptr h1 =>
            cases hy with
            | ptrD hd A => rw [hb] at hd; cases hd
            | ptr h2 =>
              rw [h1] at h2
              cases h2
              exact ⟨_, rfl, rfl⟩
        have hq := run_eql_ptr_same (P := P) w A hu hi
        have hn := run_neq_ptr_same (P := P) w A hu hi
        cases op with
        | eql => exact ⟨_, _, h5, .v (.bool _), by simp only [Sem.run_bind, eqGuard_ptr, Result.andThen_ok, hq]⟩
        | neq => exact ⟨_, _, h5, .v (.bool _), by simp only [Sem.run_bind, eqGuard_ptr, Result.andThen_ok, hn]⟩
        | _ => cases h5
      | _ => cases g1.2
    | _ => cases g1.2
theorem evAssign_sound (hI : Inv fr φ F s a w) {d : Option Tmp} {x : AVal} {v : Value} {K : St → Option X} (h : evAssign s d x K = some out) (hx : VRel w φ F fr.B x v) :
    ∃ φ' s', K s' = some out ∧ Inv fr φ' F s' (a.put d v) w := by
  unfold evAssign at h
  split at h
  · exact ⟨φ, s, h, hI⟩
  · next t =>
    obtain ⟨φ1, s1, h1, hI1, hσ, _, _⟩ := rebind_sound hI h
    refine ⟨φ1, _, h1, hI1.put ?_ (some t)⟩
    cases hs : sameR (asgAll s.nodes t x) with
    | true =>
      have : ∀ m, φ m ≠ .absent → φ1 m = φ m := fun m hm => hσ m m hm (rebind_same hs m)
      exact hx.mono (Keeps.refl F fr.B w) (fun m hm => .inl (this m hm)) (fun _ h => h) (fun _ h => .inl h)
    | false => exact hx.ren hσ
theorem okNew_all {t : Bool} {old new nn : Nodes} (h : okNew t old new nn = true) : nn.all (fun p => okNm p.1) = true := by
  unfold okNew at h
  rw [Bool.and_eq_true] at h
  exact h.1
theorem evCall_sound (hC : FnsOk P cx) (hFr : FrOk fr) (hI : Inv fr φ F s a w) {d : Option Tmp} {g : FuncId} {xs : List AVal} {vs : List Value} {K : St → Option X} (h : evCall cx s d g xs K = some out) (hx : VRelL w φ F fr.B xs vs)
    (hk : ∀ φ' F' s' a' w', K s' = some out → Inv fr φ' F' s' a' w' → next a' w') :
    CallsX P g vs.toArray w fun e w' => ∃ v, e = .returned v ∧ next (a.put d v) w' := by
  unfold evCall at h
  simp only at h
  obtain ⟨g1, h1⟩ := grd_some h
  rw [Bool.and_eq_true, List.all_eq_true] at g1
  obtain ⟨o, ⟨hrv, hns, hcall⟩, h2⟩ := hC.fns _ g _ _ _ _ h1
  obtain ⟨g2, h3⟩ := grd_some h2
  rw [fcNs_eq, fc2_eq] at h3
  rw [Bool.and_eq_true, Bool.and_eq_true] at g2
  clear h h1 h2
  obtain ⟨F1, hI1, hFF, _, _⟩ := frzN_sound (frzNames (cx.md g) 0 xs) hI
  have hx1 : VRelL w φ F1 fr.B xs vs := hx.mono (Keeps.refl F fr.B w) (Phi.refl φ) hFF (fun _ h => .inl h)
  have hl := lendAll_sound (rs := rootsK (cx.md g) (frzN (frzNames (cx.md g) 0 xs) s.nodes) xs) (md := cx.md g) hI1 0 xs vs hx1
  obtain ⟨φ2, hCI, hσ⟩ := call_in hI1 hl (sortN_nodup.1 (nodupN_iff.1 g1.1))
  refine (hcall _ φ2 F1 w vs rfl ⟨fun c hc => ?_, hI1.globCall hFr⟩ hCI).mono fun e w' ⟨v, he, φ', F', hO⟩ => ⟨v, he, ?_⟩
  · have hex : ∃ cs, (c, Node.obj cs) ∈ renN (inS (rootsK (cx.md g) (frzN (frzNames (cx.md g) 0 xs) s.nodes) xs) (frzN (frzNames (cx.md g) 0 xs) s.nodes)) (frzN (frzNames (cx.md g) 0 xs) s.nodes) := by
      refine Classical.byContradiction fun hn => hc ?_
      exact if_neg hn
    obtain ⟨cs, hcs⟩ := hex
    have := g1.2 (c, .obj cs) (mem_sortN.2 hcs)
    rw [Bool.and_eq_true] at this
    exact ⟨Nat.le_of_ble_eq_true this.1, Nat.le_of_ble_eq_true this.2⟩
  · obtain ⟨φ'', hI2, hv⟩ := call_back hFr hI1 hσ hO hrv hns (((insA_perm _ _).map _).nodup_iff.1 (nodupN_iff.1 g2.1.1)) g2.1.2 (okNew_all g2.2) (fun c n hc => by unfold backR; rw [hc])
    exact hk φ'' F' _ _ w' h3 ((hI2.perm (insA_perm _ _)).put hv d)
theorem map_one {α β : Type} {f : α → β} {l : List α} {x : β} (h : l.map f = [x]) : ∃ y, l = [y] ∧ f y = x := by
  cases l with
  | nil => cases h
  | cons y l => cases l with
    | nil => simp at h; exact ⟨y, rfl, h⟩
    | cons z l => simp at h
theorem map_two {α β : Type} {f : α → β} {l : List α} {x y : β} (h : l.map f = [x, y]) : ∃ p q, l = [p, q] ∧ f p = x ∧ f q = y := by
  cases l with
  | nil => cases h
  | cons p l => cases l with
    | nil => simp at h
    | cons q l => cases l with
      | nil => simp at h; exact ⟨p, q, rfl, h.1, h.2⟩
      | cons r l => simp at h
theorem arr_of {α : Type} {xs : Array α} {l : List α} (h : xs.toList = l) : xs = l.toArray := by rw [← h]
theorem opt_eval (hFr : FrOk fr) (hI : Inv fr φ F s a w) (x : Option Operand) : ∀ y, x.map s.eval = some y → ∃ v, x.map a.eval = some v ∧ VRel w φ F fr.B y v := fun y hy => by
  cases x with
  | none => cases hy
  | some x => cases hy; exact ⟨_, rfl, hI.eval hFr x⟩
theorem opt_none (x : Option Operand) : x.map s.eval = none → x.map a.eval = none := fun h => by cases x with | none => rfl | some x => cases h
theorem isU8T_spec (hT : TabOk cx.T P) {e : Nat} (h : isU8T cx.T e = true) : P.underlying e = some (.int .u8) := by
  unfold isU8T at h
  split at h
  · next eq => exact hT.td e _ eq
  · cases h
theorem bytesOf_nums (xs : List CV) : bytesOf xs = strOfNums (xs.map CV.toI) := by
  unfold bytesOf strOfNums
  rw [List.map_map]
  rfl
theorem run_bytesOf {src dst e : TypeId} {ys : List CV} {v : Value} {G : Nat → Prop} (hs : P.underlying src = some (.slice e)) (he : P.underlying e = some (.int .u8)) (hd : P.underlying dst = some .string) (ha : ys.all (CV.isI .u8) = true) (hr : RowRel w F G none ys v) :
    (convert src dst v).run P w = .ok (.string (bytesOf ys)) w := by
  obtain ⟨A, c, rfl, hc, h⟩ := hr
  rw [bytesOf_nums]
  rcases Nat.eq_zero_or_pos ys.length with h0 | h0
  · have : ys = [] := List.eq_nil_of_length_eq_zero h0
    subst this
    cases A with
    | none => exact run_convert_bytes_nil w src e hs he _ _ dst hd
    | some A =>
      rw [run_convert_bytes_string w src dst e _ _ c hs he hd]
      rfl
  · obtain ⟨b, o, rfl, _, hel⟩ := h h0
    refine run_convert_bytes_arg w src e hs he b o ys.length c (ys.map CV.toI) (by simp) (fun i hi => ?_) dst hd
    obtain ⟨u, h1, h2, _⟩ := hel i ys[i] (List.getElem?_eq_getElem hi)
    rw [szOf, Nat.mul_one] at h1
    rw [h1]
    have h3 := CV.isI_eq (List.all_eq_true.1 ha ys[i] (List.getElem_mem hi))
    rw [h3] at h2
    cases h2
    simp [List.getElem?_eq_getElem hi]
/-- A mark behind a block's cells. -/
theorem mark_ok {b : Nat} (h : WrB none w b) (h0 : 0 < bsize w b) : Stp (fun k => k = b) w (w.freeze ⟨b, bsize w b, none⟩ 1) ∧ WrB none (w.freeze ⟨b, bsize w b, none⟩ 1) b ∧ ∀ o, (w.freeze ⟨b, bsize w b, none⟩ 1).cell? ⟨b, o, none⟩ = w.cell? ⟨b, o, none⟩ := by
  have hsz : (w.freeze ⟨b, bsize w b, none⟩ 1).heap.size = w.heap.size := by unfold World.freeze; rw [if_neg (by decide)]; simp
  have hne : ∀ k, k ≠ b → (w.freeze ⟨b, bsize w b, none⟩ 1).heap[k]? = w.heap[k]? := fun k hk => by
    unfold World.freeze; rw [if_neg (by decide)]
    simp only [Array.getElem?_modify]
    rw [if_neg (fun e => hk e.symm)]
  cases e : w.heap[b]? with
  | none =>
    have := h.1
    rw [Array.getElem?_eq_getElem this] at e
    cases e
  | some x =>
    have hb : (w.freeze ⟨b, bsize w b, none⟩ 1).heap[b]? = some (match (generalizing := false) x with
        | .cells c elem (lo, hi) => .cells c elem (if lo == hi then (bsize w b, bsize w b + 1) else (min lo (bsize w b), max hi (bsize w b + 1)))
        | o => o) := by
      unfold World.freeze; rw [if_neg (by decide)]
      simp only [Array.getElem?_modify]
      rw [if_pos trivial, e]
      rfl
    cases x with
    | cells c t f =>
      obtain ⟨lo, hi⟩ := f
      have hbs : bsize w b = c.size := by unfold bsize; rw [e]
      have hbs' : bsize (w.freeze ⟨b, bsize w b, none⟩ 1) b = bsize w b := by rw [hbs]; unfold bsize; rw [hbs] at hb; rw [hb]
      have hcell : ∀ o, (w.freeze ⟨b, bsize w b, none⟩ 1).cell? ⟨b, o, none⟩ = w.cell? ⟨b, o, none⟩ := fun o => by
        unfold World.cell?
        rw [hb, e]
      refine ⟨⟨?_, ?_, ?_, Nat.le_of_eq hsz.symm, fun k _ hk => hne k hk, fun k hk => ?_⟩, ⟨by rw [hsz]; exact h.1, fun o ho => ⟨?_, by rw [hcell]; exact (h.2 o (by rw [hbs'] at ho; exact ho)).2⟩, fun c' t' lo' hi' e' => ?_, fun o v hv => h.one o v ((hcell o).symm.trans hv), fun e => by cases e⟩, hcell⟩
      · unfold World.freeze; rw [if_neg (by decide)]
      · unfold World.freeze; rw [if_neg (by decide)]
      · unfold World.freeze; rw [if_neg (by decide)]
      · by_cases hk' : k = b
        · subst hk'; exact hbs'
        · exact bsize_of (hne k hk')
      · rw [hbs'] at ho
        have h1 := (h.2 o ho).1
        have h2 := h.ord c t lo hi e
        unfold World.frozen? at h1 ⊢
        rw [e] at h1
        rw [hb]
        have hlo : lo = hi ∨ bsize w b ≤ lo := by
          rcases Nat.lt_or_ge lo (bsize w b) with hl | hl
          · left
            have h3 := (h.2 lo hl).1
            unfold World.frozen? at h3
            rw [e] at h3
            simp at h3
            omega
          · exact .inr hl
        by_cases heq : lo = hi
        · simp [heq]; omega
        · have := hlo.resolve_left heq
          simp [heq]; omega
      · rw [hb] at e'
        simp only [Option.some.injEq, Obj.cells.injEq] at e'
        have h2 := h.ord c t lo hi e
        obtain ⟨_, _, e3⟩ := e'
        split at e3
        · cases e3; omega
        · cases e3; omega
    | _ => exfalso; unfold bsize at h0; rw [e] at h0; exact absurd h0 (Nat.lt_irrefl _)
theorem elAt_cells {sh : Option Nat} {x : CV} {b o : Nat} (h : ElAt w F sh x b o) (hc : ∀ o, w'.cell? ⟨b, o, none⟩ = w.cell? ⟨b, o, none⟩) (hF : ∀ k, F k → w'.heap[k]? = w.heap[k]?) : ElAt w' F sh x b o := by
  unfold ElAt at *
  cases sh with
  | none => obtain ⟨u, h1, h2, h3⟩ := h; exact ⟨u, (hc _).trans h1, h2.mono (fun _ h => h) hF, h3⟩
  | some n => obtain ⟨us, h1, h2, h3⟩ := h; exact ⟨us, h1, fun j u hu => (hc _).trans (h2 j u hu), h3.mono (fun _ h => h) hF⟩
theorem run_mark {src e : TypeId} (hs : P.underlying src = some (.slice e)) (he : P.underlying e = some (.int .u8)) {b o l c : Nat} (h0 : 0 < bsize w b) : (convert src src (.slice (some ⟨b, o, none⟩) l c)).run P w = .ok (.slice (some ⟨b, o, none⟩) l c) (w.freeze ⟨b, bsize w b, none⟩ 1) := by
  have hsh : ∃ t, w.shape? b = some (t, bsize w b) := by
    unfold bsize at h0 ⊢
    unfold World.shape?
    split at h0
    · next e => rw [e]; exact ⟨_, rfl⟩
    · exact absurd h0 (Nat.lt_irrefl _)
  obtain ⟨t, hsh⟩ := hsh
  unfold convert
  simp [run_underlying hs, run_underlying he, markStringish, hsh]
/-- A row that is marked behind its end is as it was. -/
theorem Inv.mark (hI : Inv fr φ F s a w) {nm : Nm} {xs : List CV} {b n : Nat} (hf : find nm s.nodes = some (.row false none xs)) (h1 : φ nm = .at_ (some b) n) (hb0 : 0 < bsize w b) : Inv fr φ F s a (w.freeze ⟨b, bsize w b, none⟩ 1) := by
  obtain ⟨_, blk, h1', hbn, hrow⟩ := hI.nd nm _ (find_mem hf)
  rw [h1] at h1'
  cases h1'
  obtain ⟨hw, hz, hl, hel⟩ := hrow b rfl
  have hmk := mark_ok hw hb0
  have hI2 := hI.setN (N := .row false none xs) hf rfl rfl h1 hmk.1 ⟨(by decide), some b, h1, hbn, fun b' e => by
    cases e
    exact ⟨hmk.2.1, hz, by rw [hmk.1.bs b hw.1]; exact hl, fun i x hx => elAt_cells (hel i x hx) (fun o => hmk.2.2 o) (fun k hk => hmk.1.block k (hI.fb k (.inl hk)) (fun e => by subst e; exact (hI.own nm _ _ _ (find_mem hf) rfl h1).1 hk))⟩⟩ (fun cs e => by cases e)
  have e2 : (s.setN nm (.row false none xs)) = s := by
    show (⟨s.tmps, upd nm _ s.nodes⟩ : St) = s
    rw [upd_same hf]
  rw [e2] at hI2
  exact hI2
theorem bytesRow_size (b : ByteArray) (c : Nat) (h : b.size ≤ c) : (bytesRow b c).size = c := by
  have : b.data.size = b.size := rfl
  simp [bytesRow]; omega
theorem run_strBytes {src dst e : TypeId} (hs : P.underlying src = some .string) (hd : P.underlying dst = some (.slice e)) (he : P.underlying e = some (.int .u8)) (b : ByteArray) :
    (convert src dst (.string b)).run P w = .ok (.slice (some ⟨w.heap.size, 0, none⟩) b.size (grownCap w b.size 0 e)) ((w.drew.alloc (.cells (bytesRow b (grownCap w b.size 0 e)) e)).freeze ⟨w.heap.size, (bytesRow b (grownCap w b.size 0 e)).size, none⟩ 1) := by
  have hsh : ∀ (C : Array Value), (w.drew.alloc (.cells C e)).shape? w.heap.size = some (e, C.size) := fun C => by
    have : (w.drew.alloc (.cells C e)).heap[w.heap.size]? = some (.cells C e) := by
      show (w.heap.push (Obj.cells C e))[w.heap.size]? = _
      simp
    unfold World.shape?
    rw [this]
  simp [convert, run_underlying hs, run_underlying hd, run_underlying he, Conv.stringToBytes, Question.forced, newRow, markStringish, hsh, grownCap, bytesRow]
theorem evConv_sound (hT : TabOk cx.T P) (hFr : FrOk fr) (hI : Inv fr φ F s a w) {d : Option Tmp} {src dst : Nat} {x : AVal} {vx : Value} {K : St → Option X} (h : evConv cx.T s d src dst x K = some out) (hx : VRel w φ F fr.B x vx) :
    ∃ φ' s' v w', K s' = some out ∧ Inv fr φ' F s' (a.put d v) w' ∧ (convert src dst vx).run P w = .ok v w' := by
  unfold evConv at h
  split at h
  · next k _ _ _ k' _ _ _ e1 e2 =>
    obtain ⟨kk, n, rfl, h1⟩ := asI_some h hx
    have u1 := hT.td src _ e1
    have u2 := hT.td dst _ e2
    simp only [TDOk] at u1 u2
    refine ⟨φ, _, _, w, h1, hI.put (.v (.int _ _)) d, ?_⟩
    unfold convert
    simp only [Sem.run_bind, run_underlying u1, run_underlying u2, Result.andThen_ok]
    rfl
  · next e1 e2 =>
    have u1 := hT.td src _ e1
    have u2 := hT.td dst _ e2
    simp only [TDOk] at u1 u2
    split at h
    · next b =>
      obtain rfl := hx.str
      refine ⟨φ, _, _, w, h, hI.put (.v (.str b)) d, ?_⟩
      unfold convert
      simp only [Sem.run_bind, run_underlying u1, run_underlying u2, Result.andThen_ok, Sem.run_pure]
    · cases h
  · next e _ _ _ e1 e2 =>
    have u1 := hT.td src _ e1
    have u2 := hT.td dst _ e2
    simp only [TDOk] at u1 u2
    split at h
    · next d b =>
      obtain rfl := hx.str
      obtain ⟨g1, h⟩ := grd_some h
      rw [Bool.and_eq_true] at g1
      have u3 := isU8T_spec hT g1.1
      have g2 : d < 1000 := Nat.le_of_ble_eq_true g1.2
      obtain ⟨g3, h⟩ := grd_some h
      have g3 : 0 < b.size := of_decide_eq_true g3
      obtain ⟨hn, h⟩ := new_some h
      have hge := grownCap_ge w b.size 0 e
      have hbs := bytesRow_size b _ hge
      have hlen : (strCV b).length = b.size := by simp [strCV]
      obtain ⟨φ', hloc, hI3⟩ := Inv.layRowAt (fr := fr) (e := e) (sh := none) (cells := bytesRow b (grownCap w b.size 0 e)) hFr hI w.drew (Stp.drew w) rfl (by decide) hn g2 (strCV_rows b) (fun j u hu => by
        have hj := (List.getElem?_eq_some_iff.1 hu).1
        have hj : j < b.data.size := by simpa [byteCells] using hj
        simp only [bytesRow]
        rw [Array.getElem?_append_left (by simpa using hj)]
        simpa [byteCells] using hu) (by rw [hbs, hlen]; simp [szOf]; exact hge) (fun u hu => by
        simp only [bytesRow, Array.toList_append, List.mem_append] at hu
        rcases hu with hu | hu
        · have hu' : ∃ y, y ∈ b.data ∧ Value.int IntKind.u8 (y.toNat : Int) = u := by simpa using hu
          obtain ⟨y, _, rfl⟩ := hu'
          rfl
        · have := List.eq_of_mem_replicate (by simpa using hu)
          rw [this]; rfl) (n := b.size) (cap := grownCap w b.size 0 e) hlen hge (by rw [hbs]; simp [szOf])
      have hbz : bsize (w.drew.alloc (.cells (bytesRow b (grownCap w b.size 0 e)) e)) w.heap.size = (bytesRow b (grownCap w b.size 0 e)).size := bsize_alloc w.drew _ e
      have hI4 := hI3.mark (nm := [d]) (xs := strCV b) (by
        rw [St.put]
        exact find_insN_self hn) hloc (by rw [hbz, hbs]; omega)
      rw [hbz] at hI4
      exact ⟨φ', _, _, _, h, hI4, run_strBytes u1 u2 u3 b⟩
    · cases h
  · next e _ _ _ _ _ _ e1 e2 =>
    have u1 := hT.td src _ e1
    have u2 := hT.td dst _ e2
    simp only [TDOk] at u1 u2
    obtain ⟨g1, h⟩ := grd_some h
    have u3 := isU8T_spec hT g1
    obtain ⟨sh, ys, G, h', hr⟩ := rowOf_spec hI h hx
    obtain ⟨g2, h''⟩ := grd_some h'
    rw [Bool.and_eq_true] at g2
    have g3 := shEq_iff g2.1
    rw [g3] at hr
    exact ⟨φ, _, _, w, h'', hI.put (.v (.str (bytesOf ys))) d, run_bytesOf u1 u3 u2 g2.2 hr⟩
  · next e _ _ _ e1 e2 =>
    have u1 := hT.td src _ e1
    have u2 := hT.td dst _ e2
    simp only [TDOk] at u1 u2
    split at h
    · next nm sh off len =>
      split at h
      · next xs hf =>
        obtain ⟨g1, h⟩ := grd_some h
        rw [Bool.and_eq_true, Bool.and_eq_true, Bool.and_eq_true] at g1
        have gsh := shEq_iff g1.2
        have g1 := g1.1
        have g0 := Nat.eq_of_beq_eq_true g1.1.1
        have u3 := isU8T_spec hT g1.1.2
        have g2 : 0 < len := Nat.le_of_ble_eq_true g1.2
        obtain ⟨_, blk, h1, hbn, hrow⟩ := hI.nd nm _ (find_mem hf)
        cases hx with
        | oslD hd => rw [h1] at hd; cases hd
        | osl hp ho =>
          rcases ho with ⟨A, rfl, rfl, hno⟩ | ⟨b, cap, rfl, rfl, k1, k2, k3, k4⟩ | ⟨e0, _⟩
          rotate_left 2
          · rw [gsh] at e0; cases e0
          · exact absurd g2 (Nat.lt_irrefl _)
          · rw [h1] at hp
            cases hp
            obtain ⟨hw, hz, hl, hel⟩ := hrow b rfl
            have hb0 : 0 < bsize w b := Nat.lt_of_lt_of_le (Nat.mul_pos (by omega : 0 < xs.length) (by decide : 0 < szOf none)) hl
            have hmk := mark_ok hw hb0
            have hI2 := hI.setN (N := .row false none xs) hf rfl rfl h1 hmk.1 ⟨(by decide), some b, h1, hbn, fun b' e => by
              cases e
              exact ⟨hmk.2.1, hz, by rw [hmk.1.bs b hw.1]; exact hl, fun i x hx => elAt_cells (hel i x hx) (fun o => hmk.2.2 o) (fun k hk => hmk.1.block k (hI.fb k (.inl hk)) (fun e => by subst e; exact (hI.own nm _ _ _ (find_mem hf) rfl h1).1 hk))⟩⟩ (fun cs e => by cases e)
            have e2 : (s.setN nm (.row false none xs)) = s := by
              show (⟨s.tmps, upd nm _ s.nodes⟩ : St) = s
              rw [upd_same hf]
            rw [e2] at hI2
            refine ⟨φ, _, _, _, h, hI2.put (.osl h1 (.inr (.inl ⟨b, cap, rfl, rfl, k1, k2, by rw [hmk.1.bs b hw.1]; exact k3, k4⟩))) d, ?_⟩
            subst g0
            rw [u1] at u2
            cases u2
            exact run_mark u1 u3 hb0
      · cases h
    · cases h
  · cases h
theorem expand_ex {T : Tab} {t : Nat} {x : AVal} {K : AVal → Option X} (h : expand T t x K = some out) : ∃ y, K y = some out ∧ True ∧ True := by
  have l1 : ∀ {z : AVal} {c : CV} {K : AVal → Option X}, leafZ z c K = some out → ∃ y, K y = some out := fun {z c K} h => by
    unfold leafZ at h
    split at h
    · exact ⟨_, (grd_some h).2⟩
    · exact ⟨_, (grd_some h).2⟩
    · exact ⟨_, (grd_some h).2⟩
    · exact ⟨_, (grd_some h).2⟩
    · exact ⟨_, h⟩
  have l2 : ∀ (zs : List AVal) {j : Nat} {c : CV} {us : List AVal} {K : List AVal → Option X}, leavesZ zs j c us K = some out → ∃ y, K y = some out := fun zs => by
    induction zs with
    | nil => intro j c us K h; exact ⟨_, h⟩
    | cons z zs ih =>
      intro j c us K h
      obtain ⟨y, h⟩ := l1 (show leafZ z (c.cellD j) (fun u => leavesZ zs (j + 1) c (u :: us) K) = some out from h)
      exact ih h
  unfold expand at h
  split at h
  · cases ha : isAggT T t with
    | false => rw [ha] at h; exact ⟨_, h, trivial, trivial⟩
    | true =>
      rw [ha] at h
      simp only [cond_true] at h
      split at h
      · obtain ⟨y, h⟩ := l2 _ (grd_some h).2; exact ⟨_, h, trivial, trivial⟩
      · obtain ⟨y, h⟩ := l2 _ (grd_some h).2; exact ⟨_, h, trivial, trivial⟩
      · exact ⟨_, h, trivial, trivial⟩
  · exact ⟨_, h, trivial, trivial⟩
set_option maxHeartbeats 1000000 in
theorem evOp_sound (hT : TabOk cx.T P) (hO : NoOther cx.T) (hC : FnsOk P cx) (hFr : FrOk fr) (hI : Inv fr φ F s a w) {K : St → Option X} (h : evOp cx s o K = some out)
    (hk : ∀ φ' F' s' a' w', K s' = some out → Inv fr φ' F' s' a' w' → next a' w') : o.wp P a w next Q := by
  obtain ⟨dst, op, ty, pos, aft, gd⟩ := o
  have val : ∀ {z : AVal} {v : Value} {op : Op}, K (s.put dst z) = some out → VRel w φ F fr.B z v → (execOp a.eval ⟨dst, op, ty, pos, aft, gd⟩).run P w = .ok (.value v) w → Oper.wp P ⟨dst, op, ty, pos, aft, gd⟩ a w next Q := fun hK hv hrun =>
    wp_value hrun (hk _ _ _ _ _ hK (hI.put hv dst))
  cases op with
  | move x => exact val h ((hI.eval hFr x).resize ty) rfl
  | assign x =>
    obtain ⟨φ', s', h1, hI1⟩ := evAssign_sound hI h ((hI.eval hFr x).resize ty)
    exact wp_value rfl (hk _ _ _ _ _ h1 hI1)
  | pick c x y =>
    obtain ⟨b, hb, h1⟩ := asB_some (show asB (s.eval c) (fun c => match s.eval x, s.eval y with
      | .v (.bool x), .v (.bool y) => K (s.put dst (.v (.bool (bif c then x else y))))
      | x, y => bif c then K (s.put dst x) else K (s.put dst y)) = some out from h) (hI.eval hFr c)
    have hrun : (execOp a.eval ⟨dst, .pick c x y, ty, pos, aft, gd⟩).run P w = .ok (.value (if b then a.eval x else a.eval y)) w := by
      simp only [execOp, hb, asBool, Sem.run_bind, Sem.run_pure, Result.andThen_ok]
    have hx := hI.eval hFr x
    have hy := hI.eval hFr y
    split at h1
    · next x' y' ex ey =>
      rw [ex] at hx
      rw [ey] at hy
      refine val h1 ?_ hrun
      cases b with
      | true => exact hx
      | false => exact hy
    · cases b with
      | true => exact val h1 hx hrun
      | false => exact val h1 hy hrun
  | alloc t =>
    have h' : evBox cx.T s dst t (zeroT cx.T t) K = some out := h
    have hz : ∃ i, cx.T t = some i := by
      cases hi : cx.T t with
      | some i => exact ⟨i, rfl⟩
      | none =>
        have hfl : flatT cx.T t = false := by unfold flatT; rw [hi]
        unfold evBox at h'
        rw [hfl] at h'
        simp only [cond_false] at h'
        obtain ⟨y, h', _, _⟩ := expand_ex h'
        cases dst with
        | none => cases h'
        | some d =>
          unfold evBox0 at h'
          simp only at h'
          obtain ⟨h1, _⟩ := grd_some h'
          simp only [Bool.and_eq_true] at h1
          have := h1.1.1.2
          simp [sizeT, hi, Nat.blt] at this
    obtain ⟨i, hi⟩ := hz
    obtain ⟨inf, zv, i1, i2, i3, i4, i5, i6, i7⟩ := hT.info t i hi
    have hzr : VRel w φ F fr.B (zeroT cx.T t) zv := by simpa [zeroT, hi] using i5 w φ F fr.B
    obtain ⟨φ', s', h1, hI1⟩ := evBox_sound hFr hI h' hzr
    refine wp_value (v := .pointer (some ⟨w.heap.size, 0, none⟩)) (w' := w.alloc (.cells zv.cells t)) ?_ (hk _ _ _ _ _ h1 hI1)
    simp [execOp, Instr.alloc, zeroValue, run_typeInfo w i1, i4, newVar, newRow]
  | box t x =>
    simp only [evOp, evOpR] at h
    obtain ⟨φ', s', h1, hI1⟩ := evBox_sound hFr hI h (hI.eval hFr x)
    refine wp_value (v := .pointer (some ⟨w.heap.size, 0, none⟩)) (w' := w.alloc (.cells (a.eval x).cells t)) ?_ (hk _ _ _ _ _ h1 hI1)
    simp [execOp, Instr.box, newVar, newRow]
  | build t ps =>
    simp only [evOp, evOpR] at h
    obtain ⟨z, v, h1, hv, hrun⟩ := evBuild_sound hT h (PRel.eval hFr hI ps.toList)
    refine val h1 hv ?_
    simp only [execOp, Sem.run_bind, hrun (ps.map fun p => (p.1, a.eval p.2)) (by simp), Result.andThen_ok, Sem.run_pure]
  | buildSlice t n ps =>
    simp only [evOp, evOpR] at h
    obtain ⟨φ', F', s', w', v, h1, hI1, hrun⟩ := evBuildSlice_sound hT hFr hI h (PRel.eval hFr hI ps.toList)
    refine wp_value (v := v) (w' := w') ?_ (hk _ _ _ _ _ h1 hI1)
    simp only [execOp, Sem.run_bind, hrun (ps.map fun p => (p.1, a.eval p.2)) (by simp), Result.andThen_ok, Sem.run_pure]
  | load t x =>
    simp only [evOp, evOpR] at h
    obtain ⟨z, v, h1, hv, hrun⟩ := evLoad_sound hT hO hI h (hI.eval hFr x)
    obtain ⟨_, h1⟩ := grd_some h1
    exact val h1 hv (by simp only [execOp, Sem.run_bind, hrun, Result.andThen_ok, Sem.run_pure])
  | store t x y =>
    simp only [evOp, evOpR] at h
    obtain ⟨φ', F', s', w', h1, hI1, hrun⟩ := evStore_sound hT hI h (hI.eval hFr x) (hI.eval hFr y)
    refine wp_skip' (w' := w') ?_ (hk _ _ _ _ _ h1 (hI1.put (.tup (cs := []) (vs := []) rfl (fun j c v hc => by simp at hc)) dst))
    simp only [execOp, Sem.run_bind, hrun, Result.andThen_ok, Sem.run_pure]
  | nilCheck x =>
    have h' : (match s.eval x with
      | .ptr nm sz i j => K (s.put dst (.ptr nm sz i j))
      | .bptr sh x j => K (s.put dst (.bptr sh x j))
      | .fn g cs => K (s.put dst (.fn g cs))
      | _ => none) = some out := h
    have hx := hI.eval hFr x
    split at h'
    · next nm sz i j e =>
      rw [e] at hx
      obtain ⟨p, hp⟩ : ∃ p, a.eval x = .pointer (some p) := by
        generalize a.eval x = u at hx
        cases hx with
        | ptr hp => exact ⟨_, rfl⟩
        | ptrD hp A => exact ⟨_, rfl⟩
      exact val h' (by rw [hp] at hx; exact hx) (by simp only [execOp, hp]; rfl)
    · next sh y j e =>
      rw [e] at hx
      obtain ⟨p, hp⟩ : ∃ p, a.eval x = .pointer (some p) := by
        generalize a.eval x = u at hx
        cases hx with
        | bptr hb hp => exact ⟨_, rfl⟩
      exact val h' (by rw [hp] at hx; exact hx) (by simp only [execOp, hp]; rfl)
    · next g cs e =>
      rw [e] at hx
      obtain ⟨vs, hp⟩ : ∃ vs : List Value, a.eval x = .func (.func g) #[] vs.toArray := by
        generalize a.eval x = u at hx
        cases hx with
        | fn hl hp => exact ⟨_, rfl⟩
      exact val h' (by rw [hp] at hx; exact hx) (by simp only [execOp, hp]; rfl)
    · cases h'
  | binOp op t x y u =>
    simp only [evOp, evOpR] at h
    obtain ⟨z, v, h1, hv, hrun⟩ := evBinN_sound hT hO hC.cmp hI h (hI.eval hFr x) (hI.eval hFr y) x y
    exact val h1 hv (by simp only [execOp, Sem.run_bind, hrun, Result.andThen_ok, Sem.run_pure] at hrun ⊢)
  | unOp op t x =>
    simp only [evOp, evOpR] at h
    obtain ⟨z, v, h1, hv, hrun⟩ := evUn_sound (P := P) h (hI.eval hFr x)
    exact val h1 hv (by simp only [execOp, Sem.run_bind, hrun, Result.andThen_ok, Sem.run_pure])
  | convert src dst' x =>
    simp only [evOp, evOpR] at h
    obtain ⟨φ', s', v, w', h1, hI1, hrun⟩ := evConv_sound hT hFr hI h (hI.eval hFr x)
    exact wp_value (w' := w') (by simp only [execOp, Sem.run_bind, hrun, Result.andThen_ok, Sem.run_pure]) (hk _ _ _ _ _ h1 hI1)
  | makeFunc fn first caps =>
    cases fn with
    | func g =>
      obtain ⟨g1, h1⟩ := grd_some (show grd (first.toList.isEmpty) (K (s.put dst (.fn g (caps.toList.map s.eval)))) = some out from h)
      have hf : first = #[] := by
        have : first.toList = [] := by simpa using g1
        exact Array.toList_eq_nil_iff.1 this
      have hl := VRelL.map_eval hFr hI caps.toList
      refine val h1 (.fn (vs := caps.toList.map a.eval) hl.1 hl.2) ?_
      subst hf
      simp only [execOp, Instr.makeFunc, Sem.run_bind, Sem.run_pure, Result.andThen_ok]
      have e1 : (#[] : Array Operand).map a.eval = #[] := by simp
      have e2 : caps.map a.eval = (caps.toList.map a.eval).toArray := by apply Array.ext'; simp
      rw [e1, e2]
    | _ => cases h
  | makeSlice t l c =>
    simp only [evOp, evOpR] at h
    obtain ⟨φ', s', w', v, h1, hI1, hrun⟩ := evMakeSlice_sound hT hFr hI h (hI.eval hFr l) (hI.eval hFr c)
    exact wp_value (by simp only [execOp, Sem.run_bind, hrun, Result.andThen_ok, Sem.run_pure]) (hk _ _ _ _ _ h1 hI1)
  | slice t x lo hi mx =>
    simp only [evOp, evOpR] at h
    obtain ⟨z, v, h1, hv, hrun⟩ := evSlice_sound hT hI h (hI.eval hFr x) (opt_eval hFr hI lo) (opt_none lo) (opt_eval hFr hI hi) (opt_none hi) (opt_eval hFr hI mx) (opt_none (a := a) mx)
    exact val h1 hv (by simp only [execOp, Sem.run_bind, hrun, Result.andThen_ok, Sem.run_pure])
  | fieldAddr t x f =>
    simp only [evOp, evOpR] at h
    obtain ⟨z, v, h1, hv, hrun⟩ := evFieldAddr_sound hT h (hI.eval hFr x)
    exact val h1 hv (by simp only [execOp, Sem.run_bind, hrun, Result.andThen_ok, Sem.run_pure])
  | indexAddr t x i =>
    simp only [evOp, evOpR] at h
    obtain ⟨z, v, h1, hv, hrun⟩ := evIndexAddr_sound hT hI h (hI.eval hFr x) (hI.eval hFr i)
    exact val h1 hv (by simp only [execOp, Sem.run_bind, hrun, Result.andThen_ok, Sem.run_pure])
  | field t x f =>
    simp only [evOp, evOpR] at h
    obtain ⟨z, v, h1, hv, hrun⟩ := evField_sound hT hO h (hI.eval hFr x)
    exact val h1 hv (by simp only [execOp, Sem.run_bind, hrun, Result.andThen_ok, Sem.run_pure])
  | index t x i =>
    simp only [evOp, evOpR] at h
    obtain ⟨z, v, h1, hv, hrun⟩ := evIndex_sound hT hO h (hI.eval hFr x) (hI.eval hFr i)
    exact val h1 hv (by simp only [execOp, Sem.run_bind, hrun, Result.andThen_ok, Sem.run_pure])
  | extract x i =>
    have h' : (match s.eval x with
      | .tup vs => grd (Nat.blt i vs.length) (K (s.put dst (nth vs i)))
      | _ => none) = some out := h
    have hx := hI.eval hFr x
    split at h'
    · next cs e =>
      obtain ⟨g1, h1⟩ := grd_some h'
      have g1 : i < cs.length := Nat.le_of_ble_eq_true g1
      rw [e] at hx
      generalize hu : a.eval x = u at hx
      cases hx with
      | @tup _ vs hl hr =>
        have hv : vs[i]? = some vs[i] := List.getElem?_eq_getElem (by omega)
        refine val h1 (hr i _ _ (nth_get g1) hv) ?_
        simp only [execOp, hu, Instr.extract, Sem.run_bind]
        simp [hv]
    · cases h'
  | call c =>
    obtain ⟨callee, args, atys⟩ := c
    cases callee with
    | value f =>
      have h' : (match s.eval f with
        | .fn g caps => evCall cx s dst g (resA cx.T atys.toList (args.toList.map s.eval) ++ caps) K
        | _ => none) = some out := h
      have hx := hI.eval hFr f
      split at h'
      · next g caps e =>
        rw [e] at hx
        generalize hu : a.eval f = u at hx
        cases hx with
        | @fn _ _ vs hl hr =>
          have harr : #[] ++ args.map a.eval ++ vs.toArray = (args.toList.map a.eval ++ vs).toArray := by
            apply Array.ext'
            simp
          rcases evCall_sound (next := next) hC hFr hI h' (((VRelL.map_eval hFr hI args.toList).resA atys.toList).append ⟨hl, hr⟩) hk with ⟨hent, hcall⟩ | ⟨v, w', hrun, v', he, hn⟩
          · refine wp_enter (f := g) (args := (args.toList.map a.eval ++ vs).toArray) ?_ hcall
            simp only [execOp, resolve, hu, Deferred.ofValue, Sem.run_bind, Sem.run_pure, Result.andThen_ok, invoke, hent, harr]
          · cases he
            refine wp_value (v := v) (w' := w') ?_ hn
            simp only [execOp, resolve, hu, Deferred.ofValue, Sem.run_bind, Sem.run_pure, Result.andThen_ok, invoke, hrun, harr]
      · cases h'
    | builtin b =>
      have h' : (match (generalizing := false) b, args.toList.map s.eval, atys.toList with
        | .len, [x], [t] => evLen cx.T s.nodes t x fun v => K (s.put dst v)
        | .cap, [x], [t] => evCap cx.T t x fun v => K (s.put dst v)
        | .append, [x, y], [t, tx] => evAppendA cx.T s dst t tx x y K
        | .clear, [x], [t] => evClear cx.T s t x fun s => K (s.put dst (.tup []))
        | .copy, [x, y], [t, tx] => evCopy cx.T s t tx x y fun s v => K (s.put dst v)
        | .min, x :: l, _ => evMinL evMin x l fun v => K (s.put dst v)
        | .max, x :: l, _ => evMinL evMax x l fun v => K (s.put dst v)
        | _, _, _ => none) = some out := h
      split at h'
      · next x t ha ht =>
        obtain ⟨xo, hxo, rfl⟩ := map_one ha
        have := arr_of hxo
        subst this
        have := arr_of ht
        subst this
        obtain ⟨z, v, h1, hv, hrun⟩ := evLen_sound (ty := ty) hT hI h' (hI.eval hFr xo)
        refine val h1 hv ?_
        simp only [execOp, resolve, Sem.run_bind, Sem.run_pure, Result.andThen_ok, invoke, builtin]
        simp only [List.map_toArray, List.map_cons, List.map_nil, hrun, Result.andThen_ok]
      · next x t ha ht =>
        obtain ⟨xo, hxo, rfl⟩ := map_one ha
        have := arr_of hxo
        subst this
        have := arr_of ht
        subst this
        obtain ⟨z, v, h1, hv, hrun⟩ := evCap_sound (ty := ty) hT h' (hI.eval hFr xo)
        refine val h1 hv ?_
        simp only [execOp, resolve, Sem.run_bind, Sem.run_pure, Result.andThen_ok, invoke, builtin]
        simp only [List.map_toArray, List.map_cons, List.map_nil, hrun, Result.andThen_ok]
      · next x y t tx ha ht =>
        obtain ⟨xo, yo, hxo, rfl, rfl⟩ := map_two ha
        have := arr_of hxo
        subst this
        have := arr_of ht
        subst this
        obtain ⟨φ', s', w', v, h1, hI1, hrun⟩ := evAppendA_sound hT hFr hI h' (hI.eval hFr xo) (hI.eval hFr yo) ty
        refine wp_value (v := v) (w' := w') ?_ (hk _ _ _ _ _ h1 hI1)
        simp only [execOp, resolve, Sem.run_bind, Sem.run_pure, Result.andThen_ok, invoke, builtin]
        simp only [List.map_toArray, List.map_cons, List.map_nil, hrun, Result.andThen_ok]
      · next x t ha ht =>
        obtain ⟨xo, hxo, rfl⟩ := map_one ha
        have := arr_of hxo
        subst this
        have := arr_of ht
        subst this
        obtain ⟨s', w', h1, hI1, hrun⟩ := evClear_sound hT hI h' (hI.eval hFr xo) ty
        refine wp_value (v := .tuple #[]) (w' := w') ?_ (hk _ _ _ _ _ h1 (hI1.put (.tup (cs := []) (vs := []) rfl (fun j c v hc => by simp at hc)) dst))
        simp only [execOp, resolve, Sem.run_bind, Sem.run_pure, Result.andThen_ok, invoke, builtin]
        simp only [List.map_toArray, List.map_cons, List.map_nil, hrun, Result.andThen_ok]
      · next x y t tx ha ht =>
        obtain ⟨xo, yo, hxo, rfl, rfl⟩ := map_two ha
        have := arr_of hxo
        subst this
        have := arr_of ht
        subst this
        obtain ⟨s', z, v, w', h1, hI1, hz, hrun⟩ := evCopy_sound hT hI h' (hI.eval hFr xo) (hI.eval hFr yo) ty
        refine wp_value (v := v) (w' := w') ?_ (hk _ _ _ _ _ h1 (hI1.put hz dst))
        simp only [execOp, resolve, Sem.run_bind, Sem.run_pure, Result.andThen_ok, invoke, builtin]
        simp only [List.map_toArray, List.map_cons, List.map_nil, hrun, Result.andThen_ok]
      · next x l ha =>
        cases hal : args.toList with
        | nil => rw [hal] at ha; cases ha
        | cons xo rest =>
          rw [hal] at ha
          simp only [List.map_cons, List.cons.injEq] at ha
          obtain ⟨rfl, rfl⟩ := ha
          have := arr_of hal
          subst this
          obtain ⟨z, v, h1, hv, hrun⟩ := evMinL_sound (P := P) (w := w) (φ := φ) (F := F) (B := fr.B) evMin Builtin.min2 (fun h hx hy => evMin_sound h hx hy) _ _ _ _ _ h' (hI.eval hFr xo) (VRelL.map_eval hFr hI rest)
          refine val h1 hv ?_
          simp only [execOp, resolve, Sem.run_bind, Sem.run_pure, Result.andThen_ok, invoke, builtin, Builtin.min_]
          simp only [List.map_toArray, List.map_cons, hrun, Result.andThen_ok]
      · next x l ha =>
        cases hal : args.toList with
        | nil => rw [hal] at ha; cases ha
        | cons xo rest =>
          rw [hal] at ha
          simp only [List.map_cons, List.cons.injEq] at ha
          obtain ⟨rfl, rfl⟩ := ha
          have := arr_of hal
          subst this
          obtain ⟨z, v, h1, hv, hrun⟩ := evMinL_sound (P := P) (w := w) (φ := φ) (F := F) (B := fr.B) evMax Builtin.max2 (fun h hx hy => evMax_sound h hx hy) _ _ _ _ _ h' (hI.eval hFr xo) (VRelL.map_eval hFr hI rest)
          refine val h1 hv ?_
          simp only [execOp, resolve, Sem.run_bind, Sem.run_pure, Result.andThen_ok, invoke, builtin, Builtin.max_]
          simp only [List.map_toArray, List.map_cons, hrun, Result.andThen_ok]
      · cases h'
    | invoke r m => cases h
  | range t x =>
    have h' : evRange cx.T s dst t (s.eval x) K = some out := h
    unfold evRange at h'
    split at h'
    · next d b e2 =>
      obtain ⟨h1, h2⟩ := grd_some h'
      rw [Bool.and_eq_true] at h1
      have g2 : d < 1000 := Nat.le_of_ble_eq_true h1.2
      obtain ⟨hn, h3⟩ := new_some h2
      have hx := hI.eval hFr x
      rw [e2] at hx
      have hxe := hx.str
      have hstp := Stp.alloc w (.stringIter b 0)
      have hfr := hI.fresh
      obtain ⟨φ1, hI1, hloc, _, hφ1⟩ := hI.new (nm := [d]) hn (.iter b 0) (.at_ (some w.heap.size) 0) hstp (fun k hk _ => hk.elim)
        (fun b k e => by
          cases e
          exact ⟨hfr.1, hfr.2.1, hfr.2.2.1, fun m n j _ hm _ => hfr.2.2.2 m n j hm⟩)
        (fun cs b k e => by cases e)
        (fun φ' _ hself _ => ⟨w.heap.size, hself, World.iter_heap w b 0⟩) (okNm_small g2)
      have hI1 : Inv fr φ1 F ⟨s.tmps, insN ([d], .iter b 0) s.nodes⟩ a (w.alloc (.stringIter b 0)) := hI1.perm (insN_perm _ _)
      refine wp_value (v := .pointer (some ⟨w.heap.size, 0, none⟩)) (w' := w.alloc (.stringIter b 0)) ?_ (hk _ _ _ _ _ h3 (hI1.put (by simpa using (VRel.ptr (sz := 0) (i := 0) (j := 0) hloc : VRel _ φ1 F fr.B (.ptr [d] 0 0 0) _)) (some d)))
      have hr := run_range_string (P := P) w t b (strT_spec hT h1.1)
      simp only [execOp, hxe, Sem.run_bind, hr, Result.andThen_ok, Sem.run_pure]
      rfl
    · cases h'
  | next x isS =>
    have h' : evNext s dst isS (s.eval x) K = some out := h
    unfold evNext at h'
    split at h'
    · next nm sz i j e2 =>
      split at h'
      · next b p hf =>
        obtain ⟨h1, h2⟩ := grd_some h'
        rw [Bool.and_eq_true, Bool.and_eq_true] at h1
        obtain ⟨⟨g1, g2⟩, g3⟩ := h1
        subst g1
        have g2 := Nat.eq_of_beq_eq_true g2
        have g3 := Nat.eq_of_beq_eq_true g3
        subst g2 g3
        obtain ⟨bk, hb, hit⟩ := hI.nd nm _ (find_mem hf)
        have hx := hI.eval hFr x
        rw [e2] at hx
        generalize hv : a.eval x = v at hx
        cases hx with
        | ptrD hd => rw [hb] at hd; cases hd
        | ptr hp =>
          rw [hb] at hp
          cases hp
          simp only [Nat.mul_zero, Nat.add_zero] at hv
          cases hd : decide (p < b.size) with
          | true =>
            rw [hd] at h2
            simp only [cond_true] at h2
            have hlt := of_decide_eq_true hd
            have hbs : ∀ k, bsize (w.iterAt bk b (p + (Utf8.decode b p).2)) k = bsize w k := fun k => by
              unfold bsize
              by_cases hk2 : k = bk
              · subst hk2; rw [Lib.iterAt_heap w k b p _ hit, hit]
              · rw [Lib.iterAt_other w bk k b _ hk2]
            have hst : Stp (fun i => i = bk) w (w.iterAt bk b (p + (Utf8.decode b p).2)) := ⟨rfl, rfl, rfl, by rw [Lib.iterAt_size]; exact Nat.le_refl _, fun k _ hne => Lib.iterAt_other w bk k b _ hne, fun k _ => hbs k⟩
            have hI2 := hI.setN (N := .iter b (p + (Utf8.decode b p).2)) hf rfl rfl hb hst ⟨bk, hb, Lib.iterAt_heap w bk b p _ hit⟩ (fun cs e => by cases e)
            refine wp_value (v := .tuple #[.bool true, .int .i64 p, .int .i32 (Utf8.decode b p).1]) (w' := w.iterAt bk b (p + (Utf8.decode b p).2)) ?_ (hk _ _ _ _ _ h2 (hI2.put (.tup (vs := [.bool true, .int .i64 p, .int .i32 (Utf8.decode b p).1]) rfl (fun j c v hc hvv => ?_)) dst))
            · have hr := Lib.run_next_any_at (P := P) w bk b p ty hit hlt
              simp only [execOp, hv, Sem.run_bind, hr, Result.andThen_ok, Sem.run_pure]
            · match j with
              | 0 => simp at hc hvv; subst hc hvv; exact .v (.bool _)
              | 1 => simp at hc hvv; subst hc hvv; exact .v (.int _ _)
              | 2 => simp at hc hvv; subst hc hvv; exact .v (.int _ _)
              | j + 3 => simp at hc
          | false =>
            rw [hd] at h2
            simp only [cond_false] at h2
            have hlt : ¬ p < b.size := of_decide_eq_false hd
            refine wp_value (v := .tuple #[.bool false]) (w' := w) ?_ (hk _ _ _ _ _ h2 (hI.put (.tup (vs := [.bool false]) rfl (fun j c v hc hvv => ?_)) dst))
            · have hr := Lib.run_next_end_at (P := P) w bk b p ty hit hlt
              simp only [execOp, hv, Sem.run_bind, hr, Result.andThen_ok, Sem.run_pure]
            · match j with
              | 0 => simp at hc hvv; subst hc hvv; exact .v (.bool _)
              | j + 1 => simp at hc
      · cases h'
    · cases h'
  | _ => cases h
end
end Go.Proofs.YtlaojkheenobaaaDoorS
