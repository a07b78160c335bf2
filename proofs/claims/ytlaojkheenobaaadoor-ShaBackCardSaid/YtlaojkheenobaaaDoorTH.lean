/- Two operations in the other order. -/
import Derived.Test.YtlaojkheenobaaaDoorTG
namespace Go.Proofs.YtlaojkheenobaaaDoorS
open Go Go.RowKit
set_option linter.unusedVariables false
set_option linter.unusedSimpArgs false
section
variable {X Y : Type} {T : Tab} {out : X} {s : St} {cx : Cx}
/-- An evaluation that turns but its temporary, and looks at the names told. -/
def VFr (d : Option Tmp) (rd : List Nm) (s : St) (K : St → Option X) (out : X) (f : St → (St → Option Y) → Option Y) : Prop :=
  ∃ z, K (s.put d z) = some out ∧ ∀ s', Same rd s.nodes s'.nodes → ∀ K', f s' K' = K' (s'.put d z)
theorem fillF_fr {fs : List (Nat × Nat)} : ∀ (ps : List (Nat × AVal)) (cs : List AVal) {K : List AVal → Option X}, fillF T fs ps cs K = some out → ∃ z, K z = some out ∧ ∀ K' : List AVal → Option Y, fillF T fs ps cs K' = K' z
  | [], cs, K, h => ⟨cs, h, fun K' => rfl⟩
  | (f, x) :: l, cs, K, h => by
    unfold fillF at h
    obtain ⟨⟨off, ft⟩, h1, h⟩ := Option.bind_eq_some_iff.1 h
    simp only at h
    obtain ⟨x', h, _, kx⟩ := expand_fr (Y := Y) h
    obtain ⟨h2, h⟩ := grd_some h
    obtain ⟨z, h, k⟩ := fillF_fr l _ h
    refine ⟨z, h, fun K' => ?_⟩
    unfold fillF
    simp only [h1, Option.bind_some]
    refine (kx _).trans ?_
    simp only [h2, grd, cond_true, k]
theorem fillA_fr {e : Nat} : ∀ (ps : List (Nat × AVal)) (cs : List AVal) {K : List AVal → Option X}, fillA T e ps cs K = some out → ∃ z, K z = some out ∧ ∀ K' : List AVal → Option Y, fillA T e ps cs K' = K' z
  | [], cs, K, h => ⟨cs, h, fun K' => rfl⟩
  | (f, x) :: l, cs, K, h => by
    unfold fillA at h
    simp only at h
    obtain ⟨x', h, _, kx⟩ := expand_fr (Y := Y) h
    obtain ⟨h2, h⟩ := grd_some h
    obtain ⟨z, h, k⟩ := fillA_fr l _ h
    refine ⟨z, h, fun K' => ?_⟩
    unfold fillA
    refine (kx _).trans ?_
    simp only [h2, grd, cond_true, k]
theorem evBuild0_fr {t : Nat} {ps : List (Nat × AVal)} {K : AVal → Option X} (h : evBuild0 T t ps K = some out) : ∃ z, K z = some out ∧ ∀ K' : AVal → Option Y, evBuild0 T t ps K' = K' z := by
  unfold evBuild0 at h ⊢
  split at h
  · obtain ⟨h1, h⟩ := grd_some h
    obtain ⟨z, h, k⟩ := fillF_fr (Y := Y) _ _ h
    exact ⟨_, h, fun K' => by rw [h1]; exact k _⟩
  · obtain ⟨h1, h⟩ := grd_some h
    obtain ⟨z, h, k⟩ := fillA_fr (Y := Y) _ _ h
    exact ⟨_, h, fun K' => by rw [h1]; exact k _⟩
  · cases h
theorem fillC_fr {fs : List (Nat × Nat)} {n : Nat} : ∀ (ps : List (Nat × AVal)) (cs : List CV) {K : List CV → Option X}, fillC T fs n ps cs K = some out → ∃ z, K z = some out ∧ ∀ K' : List CV → Option Y, fillC T fs n ps cs K' = K' z
  | [], cs, K, h => ⟨cs, h, fun K' => rfl⟩
  | (f, x) :: l, cs, K, h => by
    unfold fillC at h
    obtain ⟨⟨off, ft⟩, h1, h⟩ := Option.bind_eq_some_iff.1 h
    simp only at h
    cases x with
    | v c =>
      simp only at h
      cases ha : isAggT T ft with
      | true =>
        rw [ha] at h
        obtain ⟨h2, h⟩ := grd_some h
        obtain ⟨z, h, k⟩ := fillC_fr l _ h
        exact ⟨z, h, fun K' => by unfold fillC; simp only [h1, Option.bind_some, ha, cond_true, grd_t h2, k]⟩
      | false =>
        rw [ha] at h
        obtain ⟨h2, h⟩ := grd_some h
        obtain ⟨z, h, k⟩ := fillC_fr l _ h
        exact ⟨z, h, fun K' => by unfold fillC; simp only [h1, Option.bind_some, ha, cond_false, grd_t h2, k]⟩
    | _ => cases h
theorem evBuild_fr {t : Nat} {ps : List (Nat × AVal)} {K : AVal → Option X} (h : evBuild T t ps K = some out) : ∃ z, K z = some out ∧ ∀ K' : AVal → Option Y, evBuild T t ps K' = K' z := by
  unfold evBuild at h ⊢
  cases e : flatS T t with
  | false => rw [e] at h; exact evBuild0_fr h
  | true =>
    rw [e] at h
    simp only [cond_true] at h ⊢
    unfold evBuildC at h ⊢
    split at h
    · obtain ⟨z, h, k⟩ := fillC_fr (Y := Y) _ _ h
      exact ⟨_, h, fun K' => k _⟩
    · cases h
theorem rowOf_same {ns ns' : Nodes} {x : AVal} {K : Option Nat → List CV → Option X} (hs : Same x.names ns ns') : rowOf ns' x K = rowOf ns x K := by
  unfold rowOf
  split
  · rfl
  · rfl
  · rfl
  · next nm sh off len =>
    have : osC ns' nm sh off len = osC ns nm sh off len := by
      unfold osC
      rw [hs nm (by simp [AVal.names, AVal.names0])]
    rw [this]
  · rfl
theorem cvF_kd (T : Tab) (src dst : Nat) (x : AVal) : (cvF T src dst x).kd = 0 := by unfold cvF; split <;> rfl
theorem cvF_of {T : Tab} {src dst : Nat} {x : AVal} (h : (cvF T src dst x).glob = false) : (cvF T src dst x).ch = false ∧ (cvF T src dst x).rdE = x.names ∧ True := by
  unfold cvF at h ⊢
  split at h
  · cases h
  · exact ⟨rfl, rfl, trivial⟩
theorem evConv_fr {d : Option Tmp} {src dst : Nat} {x : AVal} {K : St → Option X} (hg : (cvF T src dst x).glob = false) (h : evConv T s d src dst x K = some out) : ∃ z, K (s.put d z) = some out ∧ ∀ (s' : St), Same x.names s.nodes s'.nodes → ∀ (K' : St → Option Y), evConv T s' d src dst x K' = K' (s'.put d z) := by
  unfold evConv at h
  unfold evConv
  split at h
  · obtain ⟨z, h, k⟩ := asI_fr (Y := Y) h
    exact ⟨_, h, fun s' _ K' => k _⟩
  · split at h
    · exact ⟨_, h, fun s' _ K' => rfl⟩
    · cases h
  · next e1 e2 =>
    unfold cvF at hg
    rw [e1, e2] at hg
    cases hg
  · obtain ⟨h1, h⟩ := grd_some h
    obtain ⟨sh, xs, h, k⟩ := rowOf_fr (Y := Y) h
    obtain ⟨h2, h⟩ := grd_some h
    refine ⟨_, h, fun s' hs K' => ?_⟩
    rw [h1]
    show rowOf s'.nodes x _ = _
    rw [rowOf_same hs, k, h2]
    rfl
  · split at h
    · next nm sh off len =>
      split at h
      · next sh' xs hf =>
        obtain ⟨h1, h⟩ := grd_some h
        refine ⟨_, h, fun s' hs K' => ?_⟩
        simp only [hs nm (by simp [AVal.names, AVal.names0]), hf, h1, grd, cond_true]
      · cases h
    · cases h
  · cases h
theorem evMinL_fr {f : AVal → AVal → (AVal → Option X) → Option X} {f' : AVal → AVal → (AVal → Option Y) → Option Y} (hf : ∀ x y K, f x y K = some out → ∃ z, K z = some out ∧ ∀ K', f' x y K' = K' z) :
    ∀ (l : List AVal) (x : AVal) {K : AVal → Option X}, evMinL f x l K = some out → ∃ z, K z = some out ∧ ∀ K', evMinL f' x l K' = K' z
  | [], x, K, h => ⟨x, h, fun K' => rfl⟩
  | y :: l, x, K, h => by
    unfold evMinL at h
    obtain ⟨z, h, k⟩ := hf _ _ _ h
    obtain ⟨u, h, k2⟩ := evMinL_fr hf l _ h
    exact ⟨u, h, fun K' => by unfold evMinL; rw [k, k2]⟩
theorem asgAll_nil {ns : Nodes} {t : Nat} {x : AVal} (h : x.names = []) : asgAll ns t x = [] := by
  cases x with
  | osl nm sh off len => cases h
  | agg cs =>
    show asgL ns t 0 cs = []
    have key : ∀ (cs : List AVal) (j : Nat), (∀ c ∈ cs, c.names0 = []) → asgL ns t j cs = [] := fun cs => by
      induction cs with
      | nil => intro j _; rfl
      | cons c l ih =>
        intro j hc
        cases c with
        | osl nm sh off len => have := hc _ List.mem_cons_self; cases this
        | _ => exact ih (j + 1) (fun c h => hc c (List.mem_cons_of_mem _ h))
    refine key cs 0 (fun c hc => ?_)
    simp only [AVal.names, List.flatMap_eq_nil_iff] at h
    exact h c hc
  | _ => rfl
theorem names_resize {t : Nat} {x : AVal} : (resize T t x).names = x.names := by
  unfold resize
  split
  · split <;> rfl
  · rfl
theorem evAssign_fr {d : Option Tmp} {x : AVal} {K : St → Option X} (hx : x.names = []) (h : evAssign s d x K = some out) : ∃ z, K (s.put d z) = some out ∧ ∀ (s' : St) (K' : St → Option Y), evAssign s' d x K' = K' (s'.put d z) := by
  have key : ∀ {Z : Type} (s : St) (K : St → Option Z), evAssign s d x K = K (s.put d x) := fun s K => by
    cases d with
    | none => rfl
    | some t => unfold evAssign; simp only [asgAll_nil hx]; rfl
  exact ⟨x, (key s K).symm.trans h, fun s' K' => key s' K'⟩
theorem same_flat {ns ns' : Nodes} {α : Type} {l : List α} {f : α → List Nm} (h : Same (l.flatMap f) ns ns') {a : α} (ha : a ∈ l) : Same (f a) ns ns' := fun nm hnm => h nm (List.mem_flatMap.2 ⟨a, ha, hnm⟩)
theorem mvK_cases (a : AVal) : mvK a = 0 ∨ mvK a = 8 := by
  unfold mvK
  cases liteV a
  · exact .inl rfl
  · exact .inr rfl
theorem mvF_kd (a : AVal) : (mvF a).kd = 0 ∨ (mvF a).kd = 7 ∨ (mvF a).kd = 8 := by
  unfold mvF
  split
  · exact .inr (.inl rfl)
  · rcases mvK_cases a with e | e
    · exact .inl e
    · exact .inr (.inr e)
theorem mvF_fix (a : AVal) : (mvF a).ch = false ∧ (mvF a).glob = false := by
  unfold mvF
  split <;> exact ⟨rfl, rfl⟩
theorem ixK_cases (a : AVal) : ixK a = 4 ∨ ixK a = 8 := by
  unfold ixK
  split
  · exact .inr rfl
  · exact .inr rfl
  · exact .inl rfl
theorem evPP_fr {T : Tab} {ns : Nodes} {op : BinOp} {t : Nat} {x y : AVal} {K : AVal → Option X} (h : evPP T ns op t x y K = some out) : ∃ z, K z = some out ∧ ∀ ns' (K' : AVal → Option Y), aliveP ns' x = aliveP ns x → evPP T ns' op t x y K' = K' z := by
  unfold evPP at h
  obtain ⟨g1, h1⟩ := grd_some h
  cases op with
  | eql => exact ⟨_, h1, fun ns' K' ha => by unfold evPP; rw [ha, g1]; rfl⟩
  | neq => exact ⟨_, h1, fun ns' K' ha => by unfold evPP; rw [ha, g1]; rfl⟩
  | _ => cases h1
theorem ldK_cases (T : Tab) (t : Nat) (a : AVal) : ldK T t a = 0 ∨ ldK T t a = 6 ∨ ldK T t a = 9 := by
  unfold ldK
  cases (isLeafT T t && !isAggT T t) with
  | true => exact .inr (.inl rfl)
  | false =>
    cases a with
    | bptr sh x j => exact .inr (.inl rfl)
    | ptr nm sz i j =>
      cases sz with
      | succ sz => exact .inl rfl
      | zero =>
      show (bif isPtrT T t && !isAggT T t then 9 else 0) = 0 ∨ (bif isPtrT T t && !isAggT T t then 9 else 0) = 6 ∨ (bif isPtrT T t && !isAggT T t then 9 else 0) = 9
      cases (isPtrT T t && !isAggT T t) with
      | true => exact .inr (.inr rfl)
      | false => exact .inl rfl
    | _ => exact .inl rfl
theorem asgF_glob {d : Option Tmp} {x : AVal} (h : (asgF d x).glob = false) : x.names = [] := by
  unfold asgF at h
  split at h
  · next e => exact e
  · cases h
theorem asgF_ch (d : Option Tmp) (x : AVal) : (asgF d x).ch = false := by
  unfold asgF
  split <;> rfl
theorem asgF_kd (d : Option Tmp) (x : AVal) : (asgF d x).kd = 0 ∨ (asgF d x).kd = 5 := by
  unfold asgF
  split
  · exact .inl rfl
  · exact .inr rfl
theorem evOp_fr {ρ : Operand → AVal} {o : Oper} {K : St → Option X} (hg : (footR cx ρ o).glob = false) (h : evOpR cx ρ s o K = some out) :
    ((footR cx ρ o).ch = false ∧ VFr (Y := Y) o.dst (footR cx ρ o).rdE s K out (fun s' K' => evOpR cx ρ s' o K')) ∨
    ((footR cx ρ o).ch = true ∧ CFr (Y := Y) o.dst (footR cx ρ o).wr s K out (fun ts K' => evOpR cx ρ ⟨ts, s.nodes⟩ o K')) := by
  obtain ⟨dst, op, ty, pos, aft, gd⟩ := o
  cases op with
  | move x => exact .inl ⟨(mvF_fix (ρ x)).1, _, h, fun s' _ K' => rfl⟩
  | assign x =>
    have hn : (resize cx.T ty (ρ x)).names = [] := by
      rw [names_resize]
      exact asgF_glob (d := dst) hg
    obtain ⟨z, h1, k⟩ := evAssign_fr (Y := Y) hn h
    refine .inl ⟨?_, z, h1, fun s' _ K' => k s' K'⟩
    show (asgF dst (ρ x)).ch = false
    exact asgF_ch dst _
  | pick c x y =>
    obtain ⟨b, h1, k⟩ := asB_fr (Y := Y) (show asB (ρ c) (fun c => match ρ x, ρ y with
      | .v (.bool x), .v (.bool y) => K (s.put dst (.v (.bool (bif c then x else y))))
      | x, y => bif c then K (s.put dst x) else K (s.put dst y)) = some out from h)
    refine .inl ⟨rfl, ?_⟩
    have hk : ∀ (s' : St) (K' : St → Option Y), evOpR cx ρ s' ⟨dst, .pick c x y, ty, pos, aft, gd⟩ K' = (match ρ x, ρ y with
      | .v (.bool x), .v (.bool y) => K' (s'.put dst (.v (.bool (bif b then x else y))))
      | x, y => bif b then K' (s'.put dst x) else K' (s'.put dst y)) := fun s' K' => k _
    split at h1
    · next ex ey => exact ⟨_, h1, fun s' _ K' => (hk s' K').trans (by rw [ex, ey])⟩
    · next hne =>
      have hk2 : ∀ (s' : St) (K' : St → Option Y), evOpR cx ρ s' ⟨dst, .pick c x y, ty, pos, aft, gd⟩ K' = (bif b then K' (s'.put dst (ρ x)) else K' (s'.put dst (ρ y))) := fun s' K' => by
        rw [hk]
        split
        · next ex ey => exact absurd ey (hne _ _ ex)
        · rfl
      cases b with
      | true => exact ⟨_, h1, fun s' _ K' => hk2 s' K'⟩
      | false => exact ⟨_, h1, fun s' _ K' => hk2 s' K'⟩
  | alloc t =>
    have hu : (resize cx.T t (zeroT cx.T t)).cells.all soft0 = true := by
      have : (!(resize cx.T t (zeroT cx.T t)).cells.all soft0) = false := hg
      simpa using this
    exact .inr ⟨rfl, evBox_fr h hu⟩
  | box t x =>
    have hu : (resize cx.T t (ρ x)).cells.all soft0 = true := by
      have : (!(resize cx.T t (ρ x)).cells.all soft0) = false := hg
      simpa using this
    exact .inr ⟨rfl, evBox_fr h hu⟩
  | build t ps =>
    obtain ⟨z, h1, k⟩ := evBuild_fr (Y := Y) (show evBuild cx.T t (ps.toList.map fun p => (p.1, ρ p.2)) (fun a => K (s.put dst a)) = some out from h)
    exact .inl ⟨rfl, z, h1, fun s' _ K' => k (fun v => K' (s'.put dst v))⟩
  | buildSlice t n ps =>
    have := evBuildSlice_fr (Y := Y) (show evBuildSlice cx.T s dst t n (ps.toList.map fun p => (p.1, ρ p.2)) K = some out from h)
    refine .inr ⟨rfl, ?_⟩
    have e : (footR cx ρ ⟨dst, .buildSlice t n ps, ty, pos, aft, gd⟩).wr = dstN dst ++ (ps.toList.map fun p => (p.1, ρ p.2)).flatMap fun p => p.2.names := by
      simp [footR, List.flatMap_map]
    rw [e]
    exact this
  | load t x =>
    obtain ⟨z, h1, k⟩ := evLoad_fr (Y := Y) (show evLoad cx.T s.nodes t (ρ x) (fun v => grd (ptrV cx.T t v) (K (s.put dst v))) = some out from h)
    obtain ⟨hp, h1⟩ := grd_some h1
    have er : (footR cx ρ ⟨dst, .load t x, ty, pos, aft, gd⟩).rdE = (ρ x).names := by
      show (bif Nat.ble 7 (ldK cx.T t (ρ x)) && Nat.ble (ldK cx.T t (ρ x)) 8 then [] else (ρ x).names) = _
      rcases ldK_cases cx.T t (ρ x) with e | e | e <;> rw [e] <;> rfl
    refine .inl ⟨rfl, z, h1, fun s' hs K' => ?_⟩
    rw [er] at hs
    exact (k _ hs (fun v => grd (ptrV cx.T t v) (K' (s'.put dst v)))).trans (by rw [hp]; rfl)
  | store t x y =>
    have e2 : ∀ (s' : St) (K' : St → Option Y), evOpR cx ρ s' ⟨dst, .store t x y, ty, pos, aft, gd⟩ K' = evStore cx.T s' t (ρ x) (ρ y) (fun s => K' (s.put dst (.tup []))) := fun _ _ => rfl
    have h' : evStore cx.T s t (ρ x) (ρ y) (fun s => K (s.put dst (.tup []))) = some out := h
    have ef : footR cx ρ ⟨dst, .store t x y, ty, pos, aft, gd⟩ = (match ρ x with
      | .ptr nm (_ + 1) _ _ => ⟨[], nm :: (ρ y).names, false, true, 3⟩
      | .ptr nm 0 _ _ => ⟨[], nm :: (ρ y).names, true, true, 5⟩
      | _ => ⟨[], [], true, true, 0⟩) := rfl
    rw [ef] at hg
    split at hg
    · next nm sz i j e =>
      rw [ef, e]
      rw [e] at h'
      obtain ⟨ns, h1, k, k2, _⟩ := evStore_row (Y := Y) h'
      refine .inr ⟨rfl, _, ns, h1, fun ts K' => (e2 _ _).trans ?_, fun nm' hnm => k2 nm' (hnm _ List.mem_cons_self) (fun q hq => hnm q (List.mem_cons_of_mem _ hq))⟩
      rw [e]
      exact k ts _
    · cases hg
    · cases hg
  | nilCheck x =>
    have h' : (match ρ x with
      | .ptr nm sz i j => K (s.put dst (.ptr nm sz i j))
      | .bptr sh x j => K (s.put dst (.bptr sh x j))
      | .fn g cs => K (s.put dst (.fn g cs))
      | _ => none) = some out := h
    refine .inl ⟨(mvF_fix (ρ x)).1, ?_⟩
    split at h'
    · next e => exact ⟨_, h', fun s' _ K' => by show (match ρ x with | .ptr nm sz i j => _ | .bptr sh x j => _ | .fn g cs => _ | _ => _) = _; rw [e]⟩
    · next e => exact ⟨_, h', fun s' _ K' => by show (match ρ x with | .ptr nm sz i j => _ | .bptr sh x j => _ | .fn g cs => _ | _ => _) = _; rw [e]⟩
    · next e => exact ⟨_, h', fun s' _ K' => by show (match ρ x with | .ptr nm sz i j => _ | .bptr sh x j => _ | .fn g cs => _ | _ => _) = _; rw [e]⟩
    · cases h'
  | binOp op t x y u =>
    have h' : evBinN cx.T cx.cmp s.nodes op t (ρ x) (ρ y) (fun v => K (s.put dst v)) = some out := h
    unfold evBinN at h'
    cases e : (isPV (ρ x) && isPV (ρ y)) with
    | false =>
      rw [e] at h'
      obtain ⟨z, h1, k⟩ := evBin2_fr (Y := Y) (show evBin2 cx.T cx.cmp op t (ρ x) (ρ y) (fun v => K (s.put dst v)) = some out from h')
      refine .inl ⟨rfl, z, h1, fun s' _ K' => ?_⟩
      show evBinN cx.T cx.cmp s'.nodes op t (ρ x) (ρ y) (fun v => K' (s'.put dst v)) = _
      unfold evBinN
      rw [e]
      exact k (fun v => K' (s'.put dst v))
    | true =>
      rw [e] at h'
      obtain ⟨z, h1, k⟩ := evPP_fr (Y := Y) (show evPP cx.T s.nodes op t (ρ x) (ρ y) (fun v => K (s.put dst v)) = some out from h')
      have er : (footR cx ρ ⟨dst, .binOp op t x y u, ty, pos, aft, gd⟩).rdE = (ρ x).names ++ (ρ y).names := by
        show (bif Nat.ble 7 0 && Nat.ble 0 8 then [] else binN (ρ x) (ρ y)) = _
        unfold binN
        rw [e]; rfl
      have hal : ∀ s' : St, (∀ nm ∈ (ρ x).names ++ (ρ y).names, find nm s'.nodes = find nm s.nodes) → aliveP s'.nodes (ρ x) = aliveP s.nodes (ρ x) := fun s' hs => by
        cases hx : ρ x with
        | ptr nm sz i j => exact aliveN_eq (hs nm (List.mem_append_left _ (by rw [hx]; exact List.mem_cons_self)))
        | _ => rfl
      refine .inl ⟨rfl, z, h1, fun s' hs K' => ?_⟩
      rw [er] at hs
      show evBinN cx.T cx.cmp s'.nodes op t (ρ x) (ρ y) (fun v => K' (s'.put dst v)) = _
      unfold evBinN
      rw [e, cond_true]
      exact k _ _ (hal s' hs)
  | unOp op t x =>
    obtain ⟨z, h1, k⟩ := evUn_fr (Y := Y) (show evUn op (ρ x) (fun v => K (s.put dst v)) = some out from h)
    exact .inl ⟨rfl, z, h1, fun s' _ K' => k (fun v => K' (s'.put dst v))⟩
  | convert src dst' x =>
    obtain ⟨q1, q2, q3⟩ := cvF_of (x := ρ x) (show (cvF cx.T src dst' (ρ x)).glob = false from hg)
    obtain ⟨z, h1, k⟩ := evConv_fr (Y := Y) hg (show evConv cx.T s dst src dst' (ρ x) K = some out from h)
    exact .inl ⟨q1, z, h1, fun s' hs K' => k _ (by rw [← q2]; exact hs) _⟩
  | makeFunc fn first caps =>
    cases fn with
    | func g =>
      obtain ⟨g1, h1⟩ := grd_some (show grd (first.toList.isEmpty) (K (s.put dst (.fn g (caps.toList.map ρ)))) = some out from h)
      exact .inl ⟨rfl, _, h1, fun s' _ K' => by show grd (first.toList.isEmpty) (K' (s'.put dst (.fn g (caps.toList.map ρ)))) = _; rw [g1]; rfl⟩
    | _ => cases h
  | makeSlice t l c => exact .inr ⟨rfl, evMakeSlice_fr h⟩
  | slice t x lo hi mx =>
    obtain ⟨z, h1, k⟩ := evSlice_fr (Y := Y) (show evSlice cx.T s.nodes t (ρ x) (lo.map ρ) (hi.map ρ) (mx.map ρ) (fun v => K (s.put dst v)) = some out from h)
    exact .inl ⟨rfl, z, h1, fun s' hs K' => k _ hs (fun v => K' (s'.put dst v))⟩
  | fieldAddr t x f =>
    obtain ⟨z, h1, k⟩ := evFieldAddr_fr (Y := Y) (show evFieldAddr cx.T t (ρ x) f (fun v => K (s.put dst v)) = some out from h)
    exact .inl ⟨rfl, z, h1, fun s' _ K' => k (fun v => K' (s'.put dst v))⟩
  | indexAddr t x i =>
    obtain ⟨z, h1, k⟩ := evIndexAddr_fr (Y := Y) (show evIndexAddr cx.T s.nodes t (ρ x) (ρ i) (fun v => K (s.put dst v)) = some out from h)
    have er : (footR cx ρ ⟨dst, .indexAddr t x i, ty, pos, aft, gd⟩).rdE = (ρ x).names := by
      show (bif Nat.ble 7 (ixK (ρ x)) && Nat.ble (ixK (ρ x)) 8 then [] else (ρ x).names) = _
      generalize ρ x = a
      cases a <;> rfl
    refine .inl ⟨rfl, z, h1, fun s' hs K' => ?_⟩
    rw [er] at hs
    exact k _ hs (fun v => K' (s'.put dst v))
  | field t x f =>
    obtain ⟨z, h1, k⟩ := evField_fr (Y := Y) (show evField cx.T t (ρ x) f (fun v => K (s.put dst v)) = some out from h)
    exact .inl ⟨rfl, z, h1, fun s' _ K' => k (fun v => K' (s'.put dst v))⟩
  | index t x i =>
    obtain ⟨z, h1, k⟩ := evIndex_fr (Y := Y) (show evIndex cx.T t (ρ x) (ρ i) (fun v => K (s.put dst v)) = some out from h)
    exact .inl ⟨rfl, z, h1, fun s' _ K' => k (fun v => K' (s'.put dst v))⟩
  | extract x i =>
    have h' : (match ρ x with
      | .tup vs => grd (Nat.blt i vs.length) (K (s.put dst (nth vs i)))
      | _ => none) = some out := h
    refine .inl ⟨rfl, ?_⟩
    split at h'
    · next cs e =>
      obtain ⟨g1, h1⟩ := grd_some h'
      refine ⟨_, h1, fun s' _ K' => ?_⟩
      show (match ρ x with | .tup vs => grd (Nat.blt i vs.length) (K' (s'.put dst (nth vs i))) | _ => none) = _
      rw [e]
      show grd _ _ = _
      rw [g1]; rfl
    · cases h'
  | call c =>
    obtain ⟨callee, args, atys⟩ := c
    cases callee with
    | value f =>
      have h' : (match ρ f with
        | .fn g caps => evCall cx s dst g (resA cx.T atys.toList (args.toList.map ρ) ++ caps) K
        | _ => none) = some out := h
      split at h'
      · next g caps e =>
        have ef : footR cx ρ ⟨dst, .call ⟨.value f, args, atys⟩, ty, pos, aft, gd⟩ = ⟨(resA cx.T atys.toList (args.toList.map ρ) ++ caps).flatMap AVal.names, dstN dst ++ ftArgs (cx.md g) 0 (resA cx.T atys.toList (args.toList.map ρ) ++ caps), false, true, 2⟩ := by
          show (match ρ f with
            | .fn g caps => (⟨(resA cx.T atys.toList (args.toList.map ρ) ++ caps).flatMap AVal.names, dstN dst ++ ftArgs (cx.md g) 0 (resA cx.T atys.toList (args.toList.map ρ) ++ caps), false, true, 2⟩ : Ft)
            | _ => ⟨[], [], true, true, 0⟩) = _
          rw [e]
        rw [ef]
        refine .inr ⟨rfl, ?_⟩
        have := evCall_fr (Y := Y) h'
        obtain ⟨z, ns, k1, k2, k3⟩ := this
        refine ⟨z, ns, k1, fun ts K' => ?_, k3⟩
        refine Eq.trans ?_ (k2 ts K')
        show (match ρ f with
          | .fn g caps => evCall cx ⟨ts, s.nodes⟩ dst g (resA cx.T atys.toList (args.toList.map ρ) ++ caps) K'
          | _ => none) = _
        rw [e]
      · cases h'
    | builtin b =>
      have h' : (match (generalizing := false) b, args.toList.map ρ, atys.toList with
        | .len, [x], [t] => evLen cx.T s.nodes t x fun v => K (s.put dst v)
        | .cap, [x], [t] => evCap cx.T t x fun v => K (s.put dst v)
        | .append, [x, y], [t, tx] => evAppendA cx.T s dst t tx x y K
        | .clear, [x], [t] => evClear cx.T s t x fun s => K (s.put dst (.tup []))
        | .copy, [x, y], [t, tx] => evCopy cx.T s t tx x y fun s v => K (s.put dst v)
        | .min, x :: l, _ => evMinL evMin x l fun v => K (s.put dst v)
        | .max, x :: l, _ => evMinL evMax x l fun v => K (s.put dst v)
        | _, _, _ => none) = some out := h
      have hR : ∀ (s' : St) (K' : St → Option Y), evOpR cx ρ s' ⟨dst, .call ⟨.builtin b, args, atys⟩, ty, pos, aft, gd⟩ K' = (match (generalizing := false) b, args.toList.map ρ, atys.toList with
        | .len, [x], [t] => evLen cx.T s'.nodes t x fun v => K' (s'.put dst v)
        | .cap, [x], [t] => evCap cx.T t x fun v => K' (s'.put dst v)
        | .append, [x, y], [t, tx] => evAppendA cx.T s' dst t tx x y K'
        | .clear, [x], [t] => evClear cx.T s' t x fun s => K' (s.put dst (.tup []))
        | .copy, [x, y], [t, tx] => evCopy cx.T s' t tx x y fun s v => K' (s.put dst v)
        | .min, x :: l, _ => evMinL evMin x l fun v => K' (s'.put dst v)
        | .max, x :: l, _ => evMinL evMax x l fun v => K' (s'.put dst v)
        | _, _, _ => none) := fun _ _ => rfl
      split at h'
      · next x t ha ht =>
        obtain ⟨xo, hxo, rfl⟩ := map_one ha
        obtain ⟨z, h1, k⟩ := evLen_fr (Y := Y) h'
        refine .inl ⟨rfl, z, h1, fun s' hs K' => ?_⟩
        refine (hR s' K').trans ?_
        rw [ha, ht]
        refine k _ (fun nm hnm => hs nm ?_) (fun v => K' (s'.put dst v))
        show nm ∈ args.toList.flatMap fun x => (ρ x).names
        rw [hxo]; simpa using hnm
      · next x t ha ht =>
        obtain ⟨z, h1, k⟩ := evCap_fr (Y := Y) h'
        refine .inl ⟨rfl, z, h1, fun s' hs K' => ?_⟩
        refine (hR s' K').trans ?_
        rw [ha, ht]
        exact k (fun v => K' (s'.put dst v))
      · next x y t tx ha ht =>
        obtain ⟨xo, yo, hxo, rfl, rfl⟩ := map_two ha
        obtain ⟨z, ns, k1, k2, k3⟩ := evAppendA_fr (Y := Y) h'
        refine .inr ⟨rfl, z, ns, k1, fun ts K' => ?_, fun nm hnm => k3 nm (fun m hm => hnm m ?_)⟩
        · refine (hR _ K').trans ?_; rw [ha, ht]; exact k2 ts K'
        · show m ∈ dstN dst ++ args.toList.flatMap fun x => (ρ x).names
          rw [hxo]
          rcases List.mem_append.1 hm with hm | hm
          · exact List.mem_append_left _ hm
          · exact List.mem_append_right _ (by simp [hm])
      · next x t ha ht =>
        obtain ⟨xo, hxo, rfl⟩ := map_one ha
        obtain ⟨z, ns, k1, k2, k3⟩ := evClear_fr (Y := Y) h'
        refine .inr ⟨rfl, z, ns, k1, fun ts K' => ?_, fun nm hnm => k3 nm (fun m hm => hnm m ?_)⟩
        · refine (hR _ K').trans ?_; rw [ha, ht]; exact k2 ts K'
        · show m ∈ args.toList.flatMap fun x => (ρ x).names
          rw [hxo]
          simpa using hm
      · next x y t tx ha ht =>
        obtain ⟨xo, yo, hxo, rfl, rfl⟩ := map_two ha
        obtain ⟨z, ns, k1, k2, k3⟩ := evCopy_fr (Y := Y) h'
        refine .inr ⟨rfl, z, ns, k1, fun ts K' => ?_, fun nm hnm => k3 nm (fun m hm => hnm m ?_)⟩
        · refine (hR _ K').trans ?_; rw [ha, ht]; exact k2 ts K'
        · show m ∈ args.toList.flatMap fun x => (ρ x).names
          rw [hxo]
          simp [hm]
      · next x l ha =>
        obtain ⟨z, h1, k⟩ := evMinL_fr (f' := evMin (X := Y)) (fun x y K h => evMin_fr h) _ _ h'
        refine .inl ⟨rfl, z, h1, fun s' _ K' => ?_⟩
        refine (hR s' K').trans ?_; rw [ha]; exact k (fun v => K' (s'.put dst v))
      · next x l ha =>
        obtain ⟨z, h1, k⟩ := evMinL_fr (f' := evMax (X := Y)) (fun x y K h => evMax_fr h) _ _ h'
        refine .inl ⟨rfl, z, h1, fun s' _ K' => ?_⟩
        refine (hR s' K').trans ?_; rw [ha]; exact k (fun v => K' (s'.put dst v))
      · cases h'
    | invoke r m => cases h
  | range t x => cases hg
  | next x b => cases hg
  | _ => cases h
/-- Of an operation that lays a variable. -/
theorem bsK_cases (T : Tab) (t : Nat) (xs : List AVal) : bsK T t xs = 1 ∨ bsK T t xs = 10 ∨ bsK T t xs = 0 := by
  unfold bsK
  cases softP T t xs <;> cases hardP T t <;> simp
theorem bitK {T : Tab} {t : Nat} {xs : List AVal} {n : Nat} (h : bsK T t xs = n) (h0 : n ≠ 0) (h1 : n ≠ 1) (h2 : n ≠ 10) : False := by
  rcases bsK_cases T t xs with e | e | e <;> rw [e] at h
  · exact h1 h.symm
  · exact h2 h.symm
  · exact h0 h.symm
theorem bit1 {b : Bool} {n : Nat} (h : (bif b then 1 else 0 : Nat) = n) (h0 : n ≠ 0) (h1 : n ≠ 1) : False := by cases b <;> simp_all
theorem evOp_soft {ρ : Operand → AVal} {o : Oper} {K : St → Option X} (hg : (footR cx ρ o).glob = false) (hk : (footR cx ρ o).kd = 1) (h : evOpR cx ρ s o K = some out) :
    (footR cx ρ o).wr = dstN o.dst ∧ SFr (Y := Y) o.dst s K out (fun s' K' => evOpR cx ρ s' o K') := by
  obtain ⟨dst, op, ty, pos, aft, gd⟩ := o
  cases op with
  | alloc t =>
    have hu : (resize cx.T t (zeroT cx.T t)).cells.all soft0 = true := by
      have : (!(resize cx.T t (zeroT cx.T t)).cells.all soft0) = false := hg
      simpa using this
    exact ⟨rfl, evBox_sfr h hu⟩
  | box t x =>
    have hu : (resize cx.T t (ρ x)).cells.all soft0 = true := by
      have : (!(resize cx.T t (ρ x)).cells.all soft0) = false := hg
      simpa using this
    exact ⟨rfl, evBox_sfr h hu⟩
  | makeSlice t l c =>
    have hu : softP cx.T t [] = true := by
      have hk' : (bif softP cx.T t [] then 1 else 0 : Nat) = 1 := hk
      cases e : softP cx.T t [] with
      | true => rfl
      | false => rw [e] at hk'; cases hk'
    exact ⟨rfl, evMakeSlice_sfr h hu⟩
  | buildSlice t n ps =>
    have hu : softP cx.T t (ps.toList.map fun p => ρ p.2) = true := by
      have hk' : bsK cx.T t (ps.toList.map fun p => ρ p.2) = 1 := hk
      unfold bsK at hk'
      cases e : softP cx.T t (ps.toList.map fun p => ρ p.2) with
      | true => rfl
      | false => rw [e] at hk'; cases e2 : hardP cx.T t <;> rw [e2] at hk' <;> cases hk'
    have hu' := hu
    unfold softP at hu'
    split at hu'
    · simp only [Bool.and_eq_true, List.isEmpty_iff, List.all_eq_true, List.mem_map, forall_exists_index, and_imp, forall_apply_eq_imp_iff₂] at hu'
      refine ⟨?_, evBuildSlice_sfr h (by rw [List.map_map]; exact hu)⟩
      show dstN dst ++ (ps.toList.flatMap fun p => (ρ p.2).names) = dstN dst
      have : (ps.toList.flatMap fun p => (ρ p.2).names) = [] := by
        rw [List.flatMap_eq_nil_iff]
        exact fun p hp => (hu'.2 p hp).1
      rw [this, List.append_nil]
    · cases hu'
  | call c =>
    obtain ⟨callee, args, atys⟩ := c
    cases callee with
    | value f =>
      have hk' : (match ρ f with
        | .fn g caps => (⟨(resA cx.T atys.toList (args.toList.map ρ) ++ caps).flatMap AVal.names, dstN dst ++ ftArgs (cx.md g) 0 (resA cx.T atys.toList (args.toList.map ρ) ++ caps), false, true, 2⟩ : Ft)
        | _ => ⟨[], [], true, true, 0⟩).kd = 1 := hk
      split at hk' <;> cases hk'
    | builtin b => cases b <;> cases hk
    | invoke r m => cases hk
  | store t x y =>
    have hk' : (match ρ x with
      | .ptr nm (_ + 1) _ _ => (⟨[], nm :: (ρ y).names, false, true, 3⟩ : Ft)
      | .ptr nm 0 _ _ => ⟨[], nm :: (ρ y).names, true, true, 5⟩
      | _ => ⟨[], [], true, true, 0⟩).kd = 1 := hk
    split at hk' <;> cases hk'
  | load t x =>
    have hk' : ldK cx.T t (ρ x) = 1 := hk
    rcases ldK_cases cx.T t (ρ x) with e | e | e <;> rw [e] at hk' <;> cases hk'
  | move x =>
    have hk' : (mvF (ρ x)).kd = 1 := hk
    rcases mvF_kd (ρ x) with e | e | e <;> rw [e] at hk' <;> cases hk'
  | nilCheck x =>
    have hk' : (mvF (ρ x)).kd = 1 := hk
    rcases mvF_kd (ρ x) with e | e | e <;> rw [e] at hk' <;> cases hk'
  | assign x =>
    have hk' : (asgF dst (ρ x)).kd = 1 := hk
    rcases asgF_kd dst (ρ x) with e | e <;> rw [e] at hk' <;> cases hk'
  | indexAddr t x i =>
    have hk' : ixK (ρ x) = 1 := hk
    rcases ixK_cases (ρ x) with e | e <;> rw [e] at hk' <;> cases hk'
  | extract x i =>
    have hk' : extK (ρ x) i = 1 := hk
    unfold extK at hk'
    split at hk'
    · split at hk' <;> cases hk'
    · cases hk'
  | convert q1 q2 x => exact absurd ((cvF_kd cx.T q1 q2 (ρ x)).symm.trans hk) (by decide)
  | _ => cases hk
/-- Of a store in a row. -/
theorem evOp_store {ρ : Operand → AVal} {o : Oper} {s s1 : St} (hk : (footR cx ρ o).kd = 3) (h : evOpR cx ρ s o some = some s1) :
    ∃ ns, s1 = (⟨s.tmps, ns⟩ : St).put o.dst (.tup []) ∧ (∀ ts (K : St → Option St), evOpR cx ρ ⟨ts, s.nodes⟩ o K = K ((⟨ts, ns⟩ : St).put o.dst (.tup []))) ∧ ∀ m, aliveN ns m = aliveN s.nodes m := by
  obtain ⟨dst, op, ty, pos, aft, gd⟩ := o
  cases op with
  | store t x y =>
    have hk' : (match ρ x with
      | .ptr nm (_ + 1) _ _ => (⟨[], nm :: (ρ y).names, false, true, 3⟩ : Ft)
      | .ptr nm 0 _ _ => ⟨[], nm :: (ρ y).names, true, true, 5⟩
      | _ => ⟨[], [], true, true, 0⟩).kd = 3 := hk
    have e2 : ∀ (s' : St) (K' : St → Option St), evOpR cx ρ s' ⟨dst, .store t x y, ty, pos, aft, gd⟩ K' = evStore cx.T s' t (ρ x) (ρ y) (fun s => K' (s.put dst (.tup []))) := fun _ _ => rfl
    split at hk'
    · next nm sz i j e =>
      have h' := (e2 s some).symm.trans h
      rw [e] at h'
      obtain ⟨ns, h1, k, _, k3⟩ := evStore_row (Y := St) h'
      refine ⟨ns, (Option.some.inj h1).symm, fun ts K => (e2 _ _).trans ?_, k3⟩
      rw [e]
      exact k ts _
    · cases hk'
    · cases hk'
  | call c =>
    obtain ⟨callee, args, atys⟩ := c
    cases callee with
    | value f =>
      have hk' : (match ρ f with
        | .fn g caps => (⟨(resA cx.T atys.toList (args.toList.map ρ) ++ caps).flatMap AVal.names, dstN dst ++ ftArgs (cx.md g) 0 (resA cx.T atys.toList (args.toList.map ρ) ++ caps), false, true, 2⟩ : Ft)
        | _ => ⟨[], [], true, true, 0⟩).kd = 3 := hk
      split at hk' <;> cases hk'
    | builtin b => cases b <;> cases hk
    | invoke r m => cases hk
  | load t x =>
    have hk' : ldK cx.T t (ρ x) = 3 := hk
    rcases ldK_cases cx.T t (ρ x) with e | e | e <;> rw [e] at hk' <;> cases hk'
  | move x =>
    have hk' : (mvF (ρ x)).kd = 3 := hk
    rcases mvF_kd (ρ x) with e | e | e <;> rw [e] at hk' <;> cases hk'
  | nilCheck x =>
    have hk' : (mvF (ρ x)).kd = 3 := hk
    rcases mvF_kd (ρ x) with e | e | e <;> rw [e] at hk' <;> cases hk'
  | assign x =>
    have hk' : (asgF dst (ρ x)).kd = 3 := hk
    rcases asgF_kd dst (ρ x) with e | e <;> rw [e] at hk' <;> cases hk'
  | indexAddr t x i =>
    have hk' : ixK (ρ x) = 3 := hk
    rcases ixK_cases (ρ x) with e | e <;> rw [e] at hk' <;> cases hk'
  | extract x i =>
    have hk' : extK (ρ x) i = 3 := hk
    unfold extK at hk'
    split at hk'
    · split at hk' <;> cases hk'
    · cases hk'
  | makeSlice t l c => exact (bit1 (b := softP cx.T t []) hk (by decide) (by decide)).elim
  | buildSlice t n ps => exact (bitK (T := cx.T) (t := t) (xs := ps.toList.map fun p : Nat × Operand => ρ p.2) hk (by decide) (by decide) (by decide)).elim
  | convert q1 q2 x => exact absurd ((cvF_kd cx.T q1 q2 (ρ x)).symm.trans hk) (by decide)
  | _ => cases hk
/-- Of one that asks but whether a row is there. -/
theorem evOp_addr {ρ : Operand → AVal} {o : Oper} {s s1 : St} (hk : (footR cx ρ o).kd = 4) (h : evOpR cx ρ s o some = some s1) :
    ∃ u, s1 = s.put o.dst u ∧ ∀ (s' : St) (K : St → Option St), (∀ m, aliveN s'.nodes m = aliveN s.nodes m) → evOpR cx ρ s' o K = K (s'.put o.dst u) := by
  obtain ⟨dst, op, ty, pos, aft, gd⟩ := o
  cases op with
  | indexAddr t x i =>
    obtain ⟨z, h1, k⟩ := evIndexAddr_al (Y := St) (show evIndexAddr cx.T s.nodes t (ρ x) (ρ i) (fun v => some (s.put dst v)) = some s1 from h)
    exact ⟨z, (Option.some.inj h1).symm, fun s' K ha => k _ ha (fun v => K (s'.put dst v))⟩
  | store t x y =>
    have hk' : (match ρ x with
      | .ptr nm (_ + 1) _ _ => (⟨[], nm :: (ρ y).names, false, true, 3⟩ : Ft)
      | .ptr nm 0 _ _ => ⟨[], nm :: (ρ y).names, true, true, 5⟩
      | _ => ⟨[], [], true, true, 0⟩).kd = 4 := hk
    split at hk' <;> cases hk'
  | call c =>
    obtain ⟨callee, args, atys⟩ := c
    cases callee with
    | value f =>
      have hk' : (match ρ f with
        | .fn g caps => (⟨(resA cx.T atys.toList (args.toList.map ρ) ++ caps).flatMap AVal.names, dstN dst ++ ftArgs (cx.md g) 0 (resA cx.T atys.toList (args.toList.map ρ) ++ caps), false, true, 2⟩ : Ft)
        | _ => ⟨[], [], true, true, 0⟩).kd = 4 := hk
      split at hk' <;> cases hk'
    | builtin b => cases b <;> cases hk
    | invoke r m => cases hk
  | load t x =>
    have hk' : ldK cx.T t (ρ x) = 4 := hk
    rcases ldK_cases cx.T t (ρ x) with e | e | e <;> rw [e] at hk' <;> cases hk'
  | move x =>
    have hk' : (mvF (ρ x)).kd = 4 := hk
    rcases mvF_kd (ρ x) with e | e | e <;> rw [e] at hk' <;> cases hk'
  | nilCheck x =>
    have hk' : (mvF (ρ x)).kd = 4 := hk
    rcases mvF_kd (ρ x) with e | e | e <;> rw [e] at hk' <;> cases hk'
  | assign x =>
    have hk' : (asgF dst (ρ x)).kd = 4 := hk
    rcases asgF_kd dst (ρ x) with e | e <;> rw [e] at hk' <;> cases hk'
  | extract x i =>
    have hk' : extK (ρ x) i = 4 := hk
    unfold extK at hk'
    split at hk'
    · split at hk' <;> cases hk'
    · cases hk'
  | makeSlice t l c => exact (bit1 (b := softP cx.T t []) hk (by decide) (by decide)).elim
  | buildSlice t n ps => exact (bitK (T := cx.T) (t := t) (xs := ps.toList.map fun p : Nat × Operand => ρ p.2) hk (by decide) (by decide) (by decide)).elim
  | convert q1 q2 x => exact absurd ((cvF_kd cx.T q1 q2 (ρ x)).symm.trans hk) (by decide)
  | _ => cases hk
/-- Of an operation that calls. -/
theorem evOp_call {ρ : Operand → AVal} {o : Oper} (hk : (footR cx ρ o).kd = 2) :
    ∃ g args, (footR cx ρ o).wr = dstN o.dst ++ ftArgs (cx.md g) 0 args ∧ (footR cx ρ o).rd = args.flatMap AVal.names ∧ ∀ (s : St) (K : St → Option Y), evOpR cx ρ s o K = evCall cx s o.dst g args K := by
  obtain ⟨dst, op, ty, pos, aft, gd⟩ := o
  cases op with
  | call c =>
    obtain ⟨callee, args, atys⟩ := c
    cases callee with
    | value f =>
      have ef : footR cx ρ ⟨dst, .call ⟨.value f, args, atys⟩, ty, pos, aft, gd⟩ = (match ρ f with
        | .fn g caps => (⟨(resA cx.T atys.toList (args.toList.map ρ) ++ caps).flatMap AVal.names, dstN dst ++ ftArgs (cx.md g) 0 (resA cx.T atys.toList (args.toList.map ρ) ++ caps), false, true, 2⟩ : Ft)
        | _ => ⟨[], [], true, true, 0⟩) := rfl
      rw [ef] at hk ⊢
      split at hk
      · next g caps e =>
        refine ⟨g, resA cx.T atys.toList (args.toList.map ρ) ++ caps, rfl, rfl, fun s K => ?_⟩
        show (match ρ f with
          | .fn g caps => evCall cx s dst g (resA cx.T atys.toList (args.toList.map ρ) ++ caps) K
          | _ => none) = _
        rw [e]
      · cases hk
    | builtin b => cases b <;> cases hk
    | invoke r m => cases hk
  | store t x y =>
    have hk' : (match ρ x with
      | .ptr nm (_ + 1) _ _ => (⟨[], nm :: (ρ y).names, false, true, 3⟩ : Ft)
      | .ptr nm 0 _ _ => ⟨[], nm :: (ρ y).names, true, true, 5⟩
      | _ => ⟨[], [], true, true, 0⟩).kd = 2 := hk
    split at hk' <;> cases hk'
  | load t x =>
    have hk' : ldK cx.T t (ρ x) = 2 := hk
    rcases ldK_cases cx.T t (ρ x) with e | e | e <;> rw [e] at hk' <;> cases hk'
  | move x =>
    have hk' : (mvF (ρ x)).kd = 2 := hk
    rcases mvF_kd (ρ x) with e | e | e <;> rw [e] at hk' <;> cases hk'
  | nilCheck x =>
    have hk' : (mvF (ρ x)).kd = 2 := hk
    rcases mvF_kd (ρ x) with e | e | e <;> rw [e] at hk' <;> cases hk'
  | assign x =>
    have hk' : (asgF dst (ρ x)).kd = 2 := hk
    rcases asgF_kd dst (ρ x) with e | e <;> rw [e] at hk' <;> cases hk'
  | indexAddr t x i =>
    have hk' : ixK (ρ x) = 2 := hk
    rcases ixK_cases (ρ x) with e | e <;> rw [e] at hk' <;> cases hk'
  | extract x i =>
    have hk' : extK (ρ x) i = 2 := hk
    unfold extK at hk'
    split at hk'
    · split at hk' <;> cases hk'
    · cases hk'
  | makeSlice t l c => exact (bit1 (b := softP cx.T t []) hk (by decide) (by decide)).elim
  | buildSlice t n ps => exact (bitK (T := cx.T) (t := t) (xs := ps.toList.map fun p : Nat × Operand => ρ p.2) hk (by decide) (by decide) (by decide)).elim
  | convert q1 q2 x => exact absurd ((cvF_kd cx.T q1 q2 (ρ x)).symm.trans hk) (by decide)
  | _ => cases hk
/-- Of a literal whose parts are rows. -/
theorem closed0_find {ns ns' : Nodes} {a : AVal} (h : ∀ m ∈ a.names0, find m ns' = find m ns) : closed0 ns' a = closed0 ns a := by
  cases a with
  | osl nm sh off len =>
    have := h nm List.mem_cons_self
    simp only [closed0, osC, this]
  | sl p sh xs => cases p <;> rfl
  | _ => rfl
theorem closedL_find {ns ns' : Nodes} : ∀ {l : List AVal}, (∀ m ∈ l.flatMap AVal.names0, find m ns' = find m ns) → closedL ns' l = closedL ns l
  | [], h => rfl
  | a :: l, h => by
    unfold closedL
    rw [closed0_find fun m hm => h m (List.mem_flatMap.2 ⟨a, List.mem_cons_self, hm⟩), closedL_find (l := l) fun m hm => h m (by rw [List.flatMap_cons]; exact List.mem_append_right _ hm)]
theorem closed_find {ns ns' : Nodes} {a : AVal} (h : ∀ m ∈ a.names, find m ns' = find m ns) : closed ns' a = closed ns a := by
  cases a with
  | agg cs =>
    show (match closedL ns' cs with | some ds => some (CV.agg ds) | none => none) = (match closedL ns cs with | some ds => some (CV.agg ds) | none => none)
    rw [closedL_find h]
  | osl nm sh off len => exact closed0_find (a := .osl nm sh off len) h
  | sl p sh xs => cases p <;> rfl
  | _ => rfl
theorem elemsL_find {e : Nat} {ns ns' : Nodes} : ∀ (ps : List (Nat × AVal)) (xs : List CV) (K : List CV → Option X), (∀ p ∈ ps, ∀ m ∈ p.2.names, find m ns' = find m ns) → elemsL T e ns' ps xs K = elemsL T e ns ps xs K
  | [], xs, K, _ => rfl
  | (i, x) :: l, xs, K, h => by
    unfold elemsL
    rw [closed_find (ns := ns) (a := resize T e x) fun m hm => h (i, x) List.mem_cons_self m (by rwa [names_resize] at hm)]
    congr 1
    funext c
    rw [elemsL_find l _ K fun p hp => h p (List.mem_cons_of_mem _ hp)]
theorem find_upd_keep {m nm : Nm} {x : Node} {ns : Nodes} (h : find m ns = none) : find m (upd nm x ns) = none := by
  cases e : find m (upd nm x ns) with
  | none => rfl
  | some N =>
    exfalso
    have h3 : m ∈ (upd nm x ns).map (·.1) := List.mem_map.2 ⟨_, find_mem e, rfl⟩
    rw [names_upd] at h3
    obtain ⟨q, hq, e3⟩ := List.mem_map.1 h3
    obtain ⟨m', n'⟩ := q
    cases e3
    exact find_none h n' hq
theorem frzN_skip {m : Nm} : ∀ (l : List Nm) (ns : Nodes), find m ns = none → frzN l ns = frzN (l.filter fun q => !nmEq q m) ns
  | [], ns, h => rfl
  | q :: l, ns, h => by
    cases e : nmEq q m with
    | true =>
      have e' := nmEq_iff.1 e
      subst e'
      rw [frzN, h, List.filter_cons]
      simp only [e, Bool.not_true]
      exact frzN_skip l ns h
    | false =>
      rw [List.filter_cons]
      simp only [e, Bool.not_false, if_true]
      rw [frzN, frzN]
      split
      · exact frzN_skip l _ (find_upd_keep h)
      · exact frzN_skip l ns h
theorem find_frzN_keep {m : Nm} : ∀ (l : List Nm) {ns : Nodes}, find m ns = none → find m (frzN l ns) = none
  | [], ns, h => h
  | q :: l, ns, h => by
    unfold frzN
    split
    · exact find_frzN_keep l (find_upd_keep h)
    · exact find_frzN_keep l h
theorem evBuildSlice_hard {d : Option Tmp} {t n : Nat} {ps : List (Nat × AVal)} {K : St → Option X} (h : evBuildSlice T s d t n ps K = some out) (hu : hardP T t = true) :
    ∃ d0 l N z, d = some d0 ∧ (∀ m ∈ l, ∃ p ∈ ps, m ∈ p.2.names) ∧ [d0] ∉ l ∧ find [d0] s.nodes = none ∧ K ((⟨s.tmps, insN ([d0], N) (frzN l s.nodes)⟩ : St).put d z) = some out ∧
      ∀ (s' : St) (K' : St → Option Y), find [d0] s'.nodes = none → (∀ p ∈ ps, ∀ m ∈ p.2.names, find m s'.nodes = find m s.nodes) → evBuildSlice T s' d t n ps K' = K' ((⟨s'.tmps, insN ([d0], N) (frzN l s'.nodes)⟩ : St).put d z) := by
  unfold evBuildSlice at h
  split at h
  · next d e _ _ _ eq =>
    unfold hardP at hu
    simp only [eq, List.isEmpty_iff] at hu
    split at h
    · next z hz =>
      obtain ⟨h1, h⟩ := grd_some h
      obtain ⟨xs, h, k⟩ := elemsL_fr (Y := Y) _ _ h
      obtain ⟨hn, h⟩ := new_some h
      have hn' := find_frzN_none hn
      refine ⟨d, (ps.flatMap (·.2.lv1)).filter fun q => !nmEq q [d], .row false (shOf T e) xs, .osl [d] (shOf T e) 0 n, rfl, fun m hm => ?_, fun hm => ?_, hn', ?_, fun s' K' hs' hp => ?_⟩
      · obtain ⟨p, hp, hm⟩ := List.mem_flatMap.1 (List.mem_filter.1 hm).1
        exact ⟨p, hp, mem_lv1 hm⟩
      · have h9 := (List.mem_filter.1 hm).2
        have : nmEq [d] [d] = true := nmEq_iff.2 rfl
        rw [this] at h9; cases h9
      · rw [← frzN_skip _ _ hn']
        exact h
      · have hz' : closed s'.nodes (zeroT T e) = some z := (closed_congr hu).trans hz
        unfold evBuildSlice
        simp only [eq, hz', h1, grd, cond_true]
        rw [elemsL_find (ns := s.nodes) ps _ _ hp, k, ← frzN_skip _ _ hs']
        exact new_fr (ts := s'.tmps) (find_frzN_keep _ hs') _
    · cases h
  · cases h
theorem evOp_hard {ρ : Operand → AVal} {o : Oper} {K : St → Option X} (hk : (footR cx ρ o).kd = 10) (h : evOpR cx ρ s o K = some out) :
    ∃ d0 l N z, o.dst = some d0 ∧ [d0] ∉ l ∧ [d0] ∈ (footR cx ρ o).wr ∧ (∀ m ∈ l, m ∈ (footR cx ρ o).wr) ∧ find [d0] s.nodes = none ∧ K ((⟨s.tmps, insN ([d0], N) (frzN l s.nodes)⟩ : St).put o.dst z) = some out ∧
      ∀ (s' : St) (K' : St → Option Y), (∀ m ∈ (footR cx ρ o).wr, find m s'.nodes = find m s.nodes) → evOpR cx ρ s' o K' = K' ((⟨s'.tmps, insN ([d0], N) (frzN l s'.nodes)⟩ : St).put o.dst z) := by
  obtain ⟨dst, op, ty, pos, aft, gd⟩ := o
  cases op with
  | buildSlice t n ps =>
    have hu : hardP cx.T t = true := by
      have hk' : bsK cx.T t (ps.toList.map fun p => ρ p.2) = 10 := hk
      unfold bsK at hk'
      cases e : softP cx.T t (ps.toList.map fun p => ρ p.2) with
      | true => rw [e] at hk'; cases hk'
      | false =>
        rw [e] at hk'
        cases e2 : hardP cx.T t with
        | true => rfl
        | false => rw [e2] at hk'; cases hk'
    obtain ⟨d0, l, N, z, hd, hl, hl0, hn, h1, k⟩ := evBuildSlice_hard (Y := Y) (show evBuildSlice cx.T s dst t n (ps.toList.map fun p => (p.1, ρ p.2)) K = some out from h) hu
    have hw : (footR cx ρ ⟨dst, .buildSlice t n ps, ty, pos, aft, gd⟩).wr = dstN dst ++ ps.toList.flatMap fun p => (ρ p.2).names := rfl
    have hd0 : [d0] ∈ dstN dst ++ ps.toList.flatMap fun p => (ρ p.2).names := by rw [hd]; exact List.mem_append_left _ List.mem_cons_self
    have hps : ∀ q ∈ ps.toList.map fun p => (p.1, ρ p.2), ∀ m ∈ q.2.names, m ∈ dstN dst ++ ps.toList.flatMap fun p => (ρ p.2).names := fun q hq m hm => by
      obtain ⟨p, hp, rfl⟩ := List.mem_map.1 hq
      exact List.mem_append_right _ (List.mem_flatMap.2 ⟨p, hp, hm⟩)
    refine ⟨d0, l, N, z, hd, hl0, hw ▸ hd0, fun m hm => ?_, hn, h1, fun s' K' hs' => k s' K' ?_ fun q hq m hm => hs' m (hw ▸ hps q hq m hm)⟩
    · obtain ⟨q, hq, hm⟩ := hl m hm
      exact hw ▸ hps q hq m hm
    · exact (hs' _ (hw ▸ hd0)).trans hn
  | call c =>
    obtain ⟨callee, args, atys⟩ := c
    cases callee with
    | value f =>
      have hk' : (match ρ f with
        | .fn g caps => (⟨(resA cx.T atys.toList (args.toList.map ρ) ++ caps).flatMap AVal.names, dstN dst ++ ftArgs (cx.md g) 0 (resA cx.T atys.toList (args.toList.map ρ) ++ caps), false, true, 2⟩ : Ft)
        | _ => ⟨[], [], true, true, 0⟩).kd = 10 := hk
      split at hk' <;> cases hk'
    | builtin b => cases b <;> cases hk
    | invoke r m => cases hk
  | store t x y =>
    have hk' : (match ρ x with
      | .ptr nm (_ + 1) _ _ => (⟨[], nm :: (ρ y).names, false, true, 3⟩ : Ft)
      | .ptr nm 0 _ _ => ⟨[], nm :: (ρ y).names, true, true, 5⟩
      | _ => ⟨[], [], true, true, 0⟩).kd = 10 := hk
    split at hk' <;> cases hk'
  | load t x =>
    have hk' : ldK cx.T t (ρ x) = 10 := hk
    rcases ldK_cases cx.T t (ρ x) with e | e | e <;> rw [e] at hk' <;> cases hk'
  | move x =>
    have hk' : (mvF (ρ x)).kd = 10 := hk
    rcases mvF_kd (ρ x) with e | e | e <;> rw [e] at hk' <;> cases hk'
  | nilCheck x =>
    have hk' : (mvF (ρ x)).kd = 10 := hk
    rcases mvF_kd (ρ x) with e | e | e <;> rw [e] at hk' <;> cases hk'
  | assign x =>
    have hk' : (asgF dst (ρ x)).kd = 10 := hk
    rcases asgF_kd dst (ρ x) with e | e <;> rw [e] at hk' <;> cases hk'
  | indexAddr t x i =>
    have hk' : ixK (ρ x) = 10 := hk
    rcases ixK_cases (ρ x) with e | e <;> rw [e] at hk' <;> cases hk'
  | extract x i =>
    have hk' : extK (ρ x) i = 10 := hk
    unfold extK at hk'
    split at hk'
    · split at hk' <;> cases hk'
    · cases hk'
  | makeSlice t l c => exact (bit1 (b := softP cx.T t []) hk (by decide) (by decide)).elim
  | convert q1 q2 x => exact absurd ((cvF_kd cx.T q1 q2 (ρ x)).symm.trans hk) (by decide)
  | _ => cases hk
end
end Go.Proofs.YtlaojkheenobaaaDoorS
