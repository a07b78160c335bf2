/- An evaluation comes to one end, whatever is done behind it; a function's answer. -/
import Derived.Test.YtlaojkheenobaaaDoorTJ
namespace Go.Proofs.YtlaojkheenobaaaDoorS
open Go Go.RowKit
set_option linter.unusedVariables false
set_option linter.unusedSimpArgs false
section
variable {X Y : Type} {T : Tab} {out : X} {s : St} {cx : Cx}
theorem wkLeaf_dir {nm : Option Nm} {x : AVal} {K : St → AVal → Option X} (h : wkLeaf nm s x K = some out) : ∃ s1 y, K s1 y = some out ∧ ∀ K' : St → AVal → Option Y, wkLeaf nm s x K' = K' s1 y := by
  unfold wkLeaf at h ⊢
  split at h
  · obtain ⟨h0, h⟩ := grd_some h
    obtain ⟨hn, h⟩ := new_some h
    refine ⟨_, _, h, fun K' => ?_⟩
    simp only [h0, grd, cond_true]
    exact new_fr hn _
  · exact ⟨_, _, h, fun K' => rfl⟩
  · split at h
    · next e => exact ⟨_, _, h, fun K' => by simp only [e]⟩
    · cases h
  · exact ⟨_, _, h, fun K' => rfl⟩
theorem wkCell_dir {nm : Nm} {i : Nat} {K : St → Option X} (h : wkCell nm i s K = some out) : ∃ s1, K s1 = some out ∧ ∀ K' : St → Option Y, wkCell nm i s K' = K' s1 := by
  unfold wkCell at h
  split at h
  · next cs hf =>
    split at h
    · next c hc =>
      obtain ⟨s1, y, h, k⟩ := wkLeaf_dir (Y := Y) h
      split at h
      · next cs' hf' =>
        obtain ⟨h1, h⟩ := grd_some h
        refine ⟨_, h, fun K' => ?_⟩
        unfold wkCell
        simp only [hf, hc]
        rw [k]
        simp only [hf', h1, grd, cond_true]
      · cases h
    · cases h
  · cases h
theorem wkPath_dir {nm : Option Nm} : ∀ (p : List Nat) {s : St} {x : AVal} {K : St → AVal → Option X}, wkPath nm s p x K = some out → ∃ s1 y, K s1 y = some out ∧ ∀ K' : St → AVal → Option Y, wkPath nm s p x K' = K' s1 y
  | [], s, x, K, h => wkLeaf_dir h
  | i :: p, s, .tup cs, K, h => by
    unfold wkPath at h
    split at h
    · next c hc =>
      obtain ⟨s1, y, h, k⟩ := wkPath_dir p h
      exact ⟨_, _, h, fun K' => by unfold wkPath; rw [hc]; exact k _⟩
    · cases h
  | i :: p, s, .agg cs, K, h => by
    unfold wkPath at h
    split at h
    · next c hc =>
      obtain ⟨s1, y, h, k⟩ := wkPath_dir p h
      exact ⟨_, _, h, fun K' => by unfold wkPath; rw [hc]; exact k _⟩
    · cases h
  | _ :: _, s, .v _, K, h => ⟨_, _, h, fun K' => rfl⟩
  | _ :: _, s, .sl .., K, h => ⟨_, _, h, fun K' => rfl⟩
  | _ :: _, s, .nil0 _, K, h => ⟨_, _, h, fun K' => rfl⟩
  | _ :: _, s, .osl .., K, h => ⟨_, _, h, fun K' => rfl⟩
  | i :: _, s, .ptr nm' sz a b, K, h => by
    unfold wkPath at h
    obtain ⟨s1, h, k⟩ := wkCell_dir (Y := Y) h
    exact ⟨s1, _, h, fun K' => by unfold wkPath; exact k _⟩
  | _ :: _, s, .bptr .., K, h => ⟨_, _, h, fun K' => rfl⟩
  | _ :: _, s, .fn .., K, h => ⟨_, _, h, fun K' => rfl⟩
  | _ :: _, s, .undef, K, h => ⟨_, _, h, fun K' => rfl⟩
theorem wkAll_dir : ∀ (l : List Wk) {s : St} {K : St → Option X}, wkAll l s K = some out → Dir (Y := Y) K out (wkAll l s)
  | [], s, K, h => ⟨_, h, fun K' => rfl⟩
  | p :: l, s, K, h => by
    unfold wkAll at h
    cases e : Nat.beq p.t 1000000 with
    | true =>
      rw [e] at h
      obtain ⟨s2, h, k2⟩ := wkAll_dir l h
      exact ⟨s2, h, fun K' => by unfold wkAll; rw [e]; exact k2 K'⟩
    | false =>
      rw [e] at h
      obtain ⟨s1, y, h, k⟩ := wkPath_dir (Y := Y) p.path h
      obtain ⟨s2, h, k2⟩ := wkAll_dir l h
      exact ⟨s2, h, fun K' => by unfold wkAll; rw [e]; exact (k _).trans (k2 K')⟩
theorem enter_dir {id : Nat} {l : List Oper} {K : St → Option X} (h : s.enter cx id l K = some out) : Dir (Y := Y) K out (s.enter cx id l) := by
  unfold St.enter at h
  split at h
  · next e => exact ⟨_, h, fun K' => by unfold St.enter; simp only [e]⟩
  · next lv wk e =>
    simp only at h
    obtain ⟨h1, h⟩ := grd_some h
    obtain ⟨s1, h, k⟩ := wkAll_dir (Y := Y) wk h
    replace h := (fcSt_eq _ _).symm.trans h
    exact ⟨_, h, fun K' => by unfold St.enter; simp only [e]; rw [h1]; exact (k _).trans (fcSt_eq _ _)⟩
theorem enterL_dir {c : Code} {K : St → Option X} (h : s.enterL cx c K = some out) : Dir (Y := Y) K out (s.enterL cx c) := by
  unfold St.enterL at h
  split at h
  · next e =>
    obtain ⟨s1, h, k⟩ := enter_dir (Y := Y) h
    exact ⟨s1, h, fun K' => by unfold St.enterL; simp only [e]; exact k K'⟩
  · next e => exact ⟨_, h, fun K' => by unfold St.enterL; simp only [e]⟩
theorem evOps_cons_eq {ops : Array Oper} {draw : Bool} {o : Oper} {l : List Oper} {fs : List (Nat × Oper × Ft)} (K : St → Option X) : evOps cx ops draw (o :: l) fs s K = evG cx ops s o (fun s' => evOps cx ops draw l ((fs.length, o, footG cx ops s o) :: fs) s' K) := by
  conv => lhs; unfold evOps
  unfold evG footG
  cases o.guard with
  | none => rfl
  | some p =>
    obtain ⟨j, want⟩ := p
    simp only
    cases (ops[j]?).bind (·.dst) with
    | none => rfl
    | some t =>
      simp only
      generalize nth s.tmps t = v
      cases v with
      | v c =>
        cases c with
        | bool b => simp only; cases (b == want) <;> rfl
        | _ => rfl
      | tup cs => cases cs <;> rfl
      | _ => rfl
theorem evOps_dir {ops : Array Oper} {draw : Bool} : ∀ (l : List Oper) (fs : List (Nat × Oper × Ft)) {s : St} {K : St → Option X}, evOps cx ops draw l fs s K = some out → Dir (Y := Y) K out (evOps cx ops draw l fs s)
  | [], fs, s, K, h => by
    unfold evOps at h
    obtain ⟨h1, h⟩ := grd_some h
    exact ⟨_, h, fun K' => by unfold evOps; rw [h1]; rfl⟩
  | o :: l, fs, s, K, h => by
    have h := evOps_cons h
    obtain ⟨s1, h, k⟩ := evG_dir (Y := Y) h
    obtain ⟨s2, h, k2⟩ := evOps_dir l _ h
    refine ⟨s2, h, fun K' => ?_⟩
    exact (evOps_cons_eq K').trans ((k (fun s' => evOps cx ops draw l ((fs.length, o, footG cx ops s o) :: fs) s' K')).trans (k2 K'))
/-- How an evaluation of code ends. -/
inductive End where
  | n (s : St)
  | x (i : Nat) (s : St)
  | r (s : St)
def End.go (kn : St → Option X) (kx : Nat → St → Option X) (kr : St → Option X) : End → Option X
  | .n s => kn s
  | .x i s => kx i s
  | .r s => kr s
theorem iter_dir {kx : Nat → St → Option X} {kr : St → Option X} {f : (St → Option X) → St → Option X} {f' : (Nat → St → Option Y) → (St → Option Y) → (St → Option Y) → St → Option Y}
    (hf : ∀ (rec : St → Option X) s, f rec s = some out → ∃ e, End.go rec kx kr e = some out ∧ ∀ rec' kx' kr', f' kx' kr' rec' s = End.go rec' kx' kr' e) : ∀ n s, iter f n s = some out → ∃ e, End.go (fun _ => none) kx kr e = some out ∧ ∀ kx' kr', iter (f' kx' kr') n s = End.go (fun _ => none) kx' kr' e
  | 0, s, h => by cases h
  | n + 1, s, h => by
    obtain ⟨e, h1, k⟩ := hf (iter f n) s h
    cases e with
    | n s1 =>
      obtain ⟨e2, h2, k2⟩ := iter_dir hf n s1 h1
      exact ⟨e2, h2, fun kx' kr' => (k _ _ _).trans (k2 kx' kr')⟩
    | x i s1 => exact ⟨.x i s1, h1, fun kx' kr' => k _ _ _⟩
    | r s1 => exact ⟨.r s1, h1, fun kx' kr' => k _ _ _⟩
theorem evCode_dir (fuel : Nat) : ∀ (c : Code) {s : St} {kn : St → Option X} {kx : Nat → St → Option X} {kr : St → Option X}, evCode cx fuel c s kn kx kr = some out →
    ∃ e, End.go kn kx kr e = some out ∧ ∀ (kn' : St → Option Y) kx' kr', evCode cx fuel c s kn' kx' kr' = End.go kn' kx' kr' e := by
  intro c
  induction c with
  | skip => intro s kn kx kr h; exact ⟨.n s, h, fun _ _ _ => rfl⟩
  | label l => intro s kn kx kr h; exact ⟨.n s, h, fun _ _ _ => rfl⟩
  | region id ops draw =>
    intro s kn kx kr h
    obtain ⟨s1, h1, k1⟩ := enter_dir (Y := Y) h
    replace h1 := (evOpsR_eq _ _ _ _).symm.trans h1
    obtain ⟨s2, h2, k2⟩ := evOps_dir (Y := Y) _ _ h1
    exact ⟨.n s2, h2, fun kn' kx' kr' => (k1 _).trans ((evOpsR_eq _ _ _ _).trans (k2 kn'))⟩
  | seq a b iha ihb =>
    intro s kn kx kr h
    obtain ⟨e, h1, k1⟩ := iha h
    cases e with
    | n s1 =>
      obtain ⟨e2, h2, k2⟩ := ihb h1
      exact ⟨e2, h2, fun kn' kx' kr' => (k1 _ _ _).trans (k2 _ _ _)⟩
    | x i s1 => exact ⟨.x i s1, h1, fun kn' kx' kr' => k1 _ _ _⟩
    | r s1 => exact ⟨.r s1, h1, fun kn' kx' kr' => k1 _ _ _⟩
  | cond c a b iha ihb =>
    intro s kn kx kr h
    obtain ⟨t, h1, k1⟩ := asB_fr (Y := Y) (show asB (s.eval c) (fun t => bif t then evCode cx fuel a s kn kx kr else evCode cx fuel b s kn kx kr) = some out from h)
    cases t with
    | true =>
      obtain ⟨e, h2, k2⟩ := iha h1
      exact ⟨e, h2, fun kn' kx' kr' => (k1 _).trans (k2 _ _ _)⟩
    | false =>
      obtain ⟨e, h2, k2⟩ := ihb h1
      exact ⟨e, h2, fun kn' kx' kr' => (k1 _).trans (k2 _ _ _)⟩
  | block id a ih =>
    intro s kn kx kr h
    obtain ⟨e, h1, k1⟩ := ih (show evCode cx fuel a s kn (fun i s => bif Nat.beq i id then kn s else kx i s) kr = some out from h)
    cases e with
    | n s1 => exact ⟨.n s1, h1, fun kn' kx' kr' => k1 _ _ _⟩
    | r s1 => exact ⟨.r s1, h1, fun kn' kx' kr' => k1 _ _ _⟩
    | x i s1 =>
      have h1 : (bif Nat.beq i id then kn s1 else kx i s1) = some out := h1
      cases e : Nat.beq i id with
      | true =>
        rw [e] at h1
        refine ⟨.n s1, h1, fun kn' kx' kr' => (k1 kn' (fun i s => bif Nat.beq i id then kn' s else kx' i s) kr').trans ?_⟩
        show (bif Nat.beq i id then kn' s1 else kx' i s1) = _
        rw [e]; rfl
      | false =>
        rw [e] at h1
        refine ⟨.x i s1, h1, fun kn' kx' kr' => (k1 kn' (fun i s => bif Nat.beq i id then kn' s else kx' i s) kr').trans ?_⟩
        show (bif Nat.beq i id then kn' s1 else kx' i s1) = _
        rw [e]; rfl
  | loop a ih =>
    intro s kn kx kr h
    obtain ⟨s1, h1, k1⟩ := enterL_dir (Y := Y) (show s.enterL cx a (fun s => iter (fun rec s => evCode cx fuel a s (fun s => s.enterL cx a rec) kx kr) fuel s) = some out from h)
    obtain ⟨e, h2, k2⟩ := iter_dir (Y := Y) (f' := fun kx' kr' rec' s => evCode cx fuel a s (fun s => s.enterL cx a rec') kx' kr') (fun rec s h => by
      obtain ⟨e, g1, g2⟩ := ih h
      cases e with
      | n s2 =>
        obtain ⟨s3, g3, g4⟩ := enterL_dir (Y := Y) g1
        exact ⟨.n s3, g3, fun rec' kx' kr' => (g2 _ _ _).trans (g4 _)⟩
      | x i s2 => exact ⟨.x i s2, g1, fun rec' kx' kr' => g2 _ _ _⟩
      | r s2 => exact ⟨.r s2, g1, fun rec' kx' kr' => g2 _ _ _⟩) fuel s1 h1
    cases e with
    | n s2 => cases h2
    | x i s2 => exact ⟨.x i s2, h2, fun kn' kx' kr' => (k1 _).trans (k2 kx' kr')⟩
    | r s2 => exact ⟨.r s2, h2, fun kn' kx' kr' => (k1 _).trans (k2 kx' kr')⟩
  | exit id => intro s kn kx kr h; exact ⟨.x id s, h, fun _ _ _ => rfl⟩
  | ret => intro s kn kx kr h; exact ⟨.r s, h, fun _ _ _ => rfl⟩
  | rangeFunc => intro s kn kx kr h; cases h
  | scope => intro s kn kx kr h; cases h
  | goto => intro s kn kx kr h; cases h
  | refuse => intro s kn kx kr h; cases h
theorem resL_dir : ∀ (rs : List ResultVar) {K : List AVal → Option X}, resL T s rs K = some out → ∃ vs, K vs = some out
  | [], K, h => ⟨_, h⟩
  | .tmp t :: l, K, h => by
    obtain ⟨vs, h⟩ := resL_dir l (show resL T s l (fun vs => K (nth s.tmps t :: vs)) = some out from h)
    exact ⟨_, h⟩
  | .cell a t :: l, K, h => by
    obtain ⟨z, h, _⟩ := evLoad_fr (Y := X) (show evLoad T s.nodes t (nth s.tmps a) (fun v => resL T s l fun vs => K (v :: vs)) = some out from h)
    obtain ⟨vs, h⟩ := resL_dir l h
    exact ⟨_, h⟩
theorem mkOutW_noB {ws : List Wk} {rv : AVal} {o : Out} (h : mkOutW ws s rv = some o) : noB o.rv = true ∧ noBN o.nodes = true := by
  obtain ⟨s1, h, _⟩ := wkAll_dir (Y := Out) ws (show wkAll ws ⟨[rv], s.nodes⟩ (fun s => mkOut s (nth s.tmps 0)) = some o from h)
  unfold mkOut at h
  obtain ⟨h1, h2⟩ := grd_some h
  cases h2
  rw [Bool.and_eq_true, Bool.and_eq_true, Bool.and_eq_true] at h1
  have hnb := noBN_trim (f := fun nm => bif okNm nm then refs2 nm ((nth s1.tmps 0).ren (outS s1.nodes (outR [2000] (nth s1.tmps 0)))) ++ refsN nm (sortN (renN (outS s1.nodes (outR [2000] (nth s1.tmps 0))) s1.nodes)) else []) h1.1.1.2
  exact ⟨h1.1.1.1, hnb⟩
theorem evRet_noB {ws : List Wk} {rs : List ResultVar} {o : Out} (h : evRet T ws rs s = some o) : noB o.rv = true ∧ noBN o.nodes = true := by
  obtain ⟨vs, h⟩ := resL_dir rs h
  split at h <;> exact mkOutW_noB h
theorem evFn_dir {ws : List Wk} {fuel nt : Nat} {rs : List ResultVar} {c : Code} {args : List AVal} {ns : Nodes} {K : Out → Option X} (h : evFn cx ws fuel nt rs c args ns K = some out) :
    ∃ o, K o = some out ∧ (noB o.rv = true ∧ noBN o.nodes = true) ∧ ∀ (Y : Type) (K' : Out → Option Y), evFn cx ws fuel nt rs c args ns K' = K' o := by
  have key : ∀ s1, Option.bind (evRet cx.T ws rs s1) K = some out → (∀ (Y : Type) (K' : Out → Option Y), evFn cx ws fuel nt rs c args ns K' = Option.bind (evRet cx.T ws rs s1) K') → ∃ o, K o = some out ∧ (noB o.rv = true ∧ noBN o.nodes = true) ∧ ∀ (Y : Type) (K' : Out → Option Y), evFn cx ws fuel nt rs c args ns K' = K' o := fun s1 h1 h2 => by
    obtain ⟨o, h3, h4⟩ := bind_some h1
    exact ⟨o, h4, evRet_noB h3, fun Y K' => by rw [h2 Y K', h3]; rfl⟩
  obtain ⟨e, h1, _⟩ := evCode_dir (Y := X) fuel c h
  have k : ∀ (Y : Type), ∃ e', End.go (fun s => Option.bind (evRet cx.T ws rs s) K) (fun _ _ => none) (fun s => Option.bind (evRet cx.T ws rs s) K) e' = some out ∧ ∀ K' : Out → Option Y, evFn cx ws fuel nt rs c args ns K' = End.go (fun s => Option.bind (evRet cx.T ws rs s) K') (fun _ _ => none) (fun s => Option.bind (evRet cx.T ws rs s) K') e' := fun Y => by
    obtain ⟨e', g1, g2⟩ := evCode_dir (Y := Y) fuel c h
    exact ⟨e', g1, fun K' => g2 _ _ _⟩
  have fin : ∀ (Y : Type), ∃ o, evFn cx ws fuel nt rs c args ns (some : Out → Option Out) = some o ∧ ∀ K' : Out → Option Y, evFn cx ws fuel nt rs c args ns K' = K' o := fun Y => by
    obtain ⟨e1, g1, g2⟩ := evCode_dir (Y := Out) fuel c h
    have h5 : ∃ o, evFn cx ws fuel nt rs c args ns (some : Out → Option Out) = some o := by
      have : evFn cx ws fuel nt rs c args ns (some : Out → Option Out) = End.go (fun s => Option.bind (evRet cx.T ws rs s) some) (fun _ _ => none) (fun s => Option.bind (evRet cx.T ws rs s) some) e1 := g2 _ _ _
      rw [this]
      cases e1 with
      | n s1 => obtain ⟨o, h3, h4⟩ := bind_some g1; exact ⟨o, by show Option.bind (evRet cx.T ws rs s1) some = some o; rw [h3]; rfl⟩
      | r s1 => obtain ⟨o, h3, h4⟩ := bind_some g1; exact ⟨o, by show Option.bind (evRet cx.T ws rs s1) some = some o; rw [h3]; rfl⟩
      | x i s1 => cases g1
    obtain ⟨o, h5⟩ := h5
    refine ⟨o, h5, fun K' => ?_⟩
    obtain ⟨e2, q1, q2⟩ := evCode_dir (Y := Y) fuel c (show evCode cx fuel c ⟨padT nt args, ns⟩ (fun s => Option.bind (evRet cx.T ws rs s) some) (fun _ _ => none) (fun s => Option.bind (evRet cx.T ws rs s) some) = some o from h5)
    refine (q2 _ _ _).trans ?_
    cases e2 with
    | n s1 => obtain ⟨o', h3, h4⟩ := bind_some q1; cases h4; show Option.bind (evRet cx.T ws rs s1) K' = K' o; rw [h3]; rfl
    | r s1 => obtain ⟨o', h3, h4⟩ := bind_some q1; cases h4; show Option.bind (evRet cx.T ws rs s1) K' = K' o; rw [h3]; rfl
    | x i s1 => cases q1
  obtain ⟨o, h5, h6⟩ := fin X
  have hK : K o = some out := (h6 K).symm.trans h
  refine ⟨o, hK, ?_, fun Y K' => ?_⟩
  · obtain ⟨e1, g1, _⟩ := evCode_dir (Y := Out) fuel c (show evCode cx fuel c ⟨padT nt args, ns⟩ (fun s => Option.bind (evRet cx.T ws rs s) some) (fun _ _ => none) (fun s => Option.bind (evRet cx.T ws rs s) some) = some o from h5)
    cases e1 with
    | n s1 => obtain ⟨o', h3, h4⟩ := bind_some g1; cases h4; exact evRet_noB h3
    | r s1 => obtain ⟨o', h3, h4⟩ := bind_some g1; cases h4; exact evRet_noB h3
    | x i s1 => cases g1
  · obtain ⟨o2, h7, h8⟩ := fin Y
    rw [h5] at h7
    cases h7
    exact h8 K'
/-- The same, where what comes behind is told at once. -/
def evRetK (T : Tab) (ws : List Wk) (rs : List ResultVar) (s : St) (K : Out → Option X) : Option X :=
  resL T s rs fun vs => match vs with
    | [v] => Option.bind (mkOutW ws s v) K
    | vs => Option.bind (mkOutW ws s (.tup vs)) K
theorem evLoad_nat {ns : Nodes} {t : Nat} {x : AVal} {G : AVal → Option Y} {K : Y → Option X} : evLoad T ns t x (fun v => Option.bind (G v) K) = Option.bind (evLoad T ns t x G) K := by
  cases e : evLoad T ns t x (some : AVal → Option AVal) with
  | some z0 =>
    obtain ⟨z, h1, k1⟩ := evLoad_fr (Y := X) e
    obtain ⟨z', h2, k2⟩ := evLoad_fr (Y := Y) e
    cases h1
    cases h2
    rw [k1 ns (fun _ _ => rfl), k2 ns (fun _ _ => rfl)]
  | none =>
    have e1 : ∀ {Z : Type} (G : AVal → Option Z), evLoad T ns t x G = none := fun {Z} G => by
      cases e2 : evLoad T ns t x G with
      | none => rfl
      | some z =>
        obtain ⟨z', _, k⟩ := evLoad_fr (Y := AVal) e2
        rw [k ns (fun _ _ => rfl)] at e; cases e
    rw [e1, e1]; rfl
theorem resL_nat : ∀ (rs : List ResultVar) {G : List AVal → Option Y} {K : Y → Option X}, resL T s rs (fun vs => Option.bind (G vs) K) = Option.bind (resL T s rs G) K
  | [], G, K => rfl
  | .tmp t :: l, G, K => resL_nat l (G := fun vs => G (nth s.tmps t :: vs))
  | .cell a t :: l, G, K => by
    show evLoad T s.nodes t (nth s.tmps a) (fun v => resL T s l fun vs => Option.bind (G (v :: vs)) K) = Option.bind (evLoad T s.nodes t (nth s.tmps a) (fun v => resL T s l fun vs => G (v :: vs))) K
    rw [← evLoad_nat]
    congr 1
    funext v
    exact resL_nat l (G := fun vs => G (v :: vs))
theorem evRetK_eq {ws : List Wk} {rs : List ResultVar} {K : Out → Option X} : evRetK T ws rs s K = Option.bind (evRet T ws rs s) K := by
  unfold evRetK evRet
  rw [← resL_nat]
  congr 1
  funext vs
  split
  · rfl
  · next h =>
    split
    · next v => exact absurd rfl (h v)
    · rfl
def evFnK (cx : Cx) (ws : List Wk) (fuel : Nat) (ntmps : Nat) (rs : List ResultVar) (body : Code) (args : List AVal) (ns : Nodes) (K : Out → Option X) : Option X :=
  evCode cx fuel body ⟨padT ntmps args, ns⟩ (fun s => evRetK cx.T ws rs s K) (fun _ _ => none) (fun s => evRetK cx.T ws rs s K)
theorem evFnK_eq {ws : List Wk} {fuel nt : Nat} {rs : List ResultVar} {c : Code} {args : List AVal} {ns : Nodes} {K : Out → Option X} : evFnK cx ws fuel nt rs c args ns K = evFn cx ws fuel nt rs c args ns K := by
  unfold evFnK evFn
  simp only [evRetK_eq]
end
/-- What the evaluator computes of a function, its calls answer. -/
theorem evFn_ok {X : Type} {P : Program} {cx : Cx} (hT : TabOk cx.T P) (hO : NoOther cx.T) (hC : FnsOk P cx) (hm : P.follows .mixedOrders = true) {g : FuncId} {fn : Func} {c : Code} (hf : P.funcs[g]? = some fn) (hb : fn.body = some c) {ws : List Wk} {fuel : Nat} {args : List AVal} {ns : Nodes} {K : Out → Option X} {x : X}
    (h : evFn cx ws fuel fn.ntmps fn.results.toList c args ns K = some x) : ∃ o, FnOk P g args ns o ∧ K o = some x ∧ ∀ (Y : Type) (K' : Out → Option Y), evFn cx ws fuel fn.ntmps fn.results.toList c args ns K' = K' o := by
  obtain ⟨o, h1, h2, h3⟩ := evFn_dir h
  exact ⟨o, evFn_ok0 hT hO hC (drawsOk hT hO hC) hm hf hb (h3 Out some) h2, h1, h3⟩
end Go.Proofs.YtlaojkheenobaaaDoorS
