/- Who takes but plain data, and a store in an object. -/
import Derived.Test.YtlaojkheenobaaaDoorTI
namespace Go.Proofs.YtlaojkheenobaaaDoorS
open Go Go.RowKit
set_option linter.unusedVariables false
set_option linter.unusedSimpArgs false
section
variable {X Y : Type} {T : Tab} {out : X} {s : St} {cx : Cx}
/-- A name that has nothing to do with these. -/
def Away (W : List Nm) (m : Nm) : Prop := ∀ w ∈ W, kin w m = false
/-- A turn of values that leaves plain data, and what has to do with other names. -/
structure Gd (W : List Nm) (g : AVal → AVal) : Prop where
  v : ∀ c, g (.v c) = .v c
  ptr : ∀ nm sz i j, Away W nm → g (.ptr nm sz i j) = .ptr nm sz i j
  bptr : ∀ sh x j, g (.bptr sh x j) = .bptr sh x j
  tup : ∀ vs, ∃ vs', g (.tup vs) = .tup vs' ∧ vs'.length = vs.length ∧ ∀ i c, nth vs i = .v c → nth vs' i = .v c
  un : g .undef = .undef
  sl : ∀ p sh xs, g (.sl p sh xs) = .sl p sh xs
  nil0 : ∀ sh, g (.nil0 sh) = .nil0 sh
theorem Gd.id (W : List Nm) : Gd W id := ⟨fun _ => rfl, fun _ _ _ _ _ => rfl, fun _ _ _ => rfl, fun vs => ⟨vs, rfl, rfl, fun _ _ h => h⟩, rfl, fun _ _ _ => rfl, fun _ => rfl⟩
theorem Gd.ren {W : List Nm} {σ : Nm → Sb} (h : ∀ m, Away W m → σ m = .to m) : Gd W (fun a => a.ren σ) :=
  ⟨fun _ => rfl, fun nm sz i j hn => by show AVal.ren0 σ (.ptr nm sz i j) = _; simp only [AVal.ren0, h nm hn], fun _ _ _ => rfl,
   fun vs => ⟨vs.map (·.ren1 σ), rfl, by simp, fun i c hc => by rw [nth_map _ rfl, hc]; rfl⟩, rfl, fun _ _ _ => rfl, fun _ => rfl⟩
theorem Gd.comp {W : List Nm} {f g : AVal → AVal} (hf : Gd W f) (hg : Gd W g) : Gd W (fun a => g (f a)) :=
  ⟨fun c => by rw [hf.v, hg.v], fun nm sz i j h => by rw [hf.ptr _ _ _ _ h, hg.ptr _ _ _ _ h], fun sh x j => by rw [hf.bptr, hg.bptr],
   fun vs => by
    obtain ⟨vs1, h1, h2, h3⟩ := hf.tup vs
    obtain ⟨vs2, k1, k2, k3⟩ := hg.tup vs1
    exact ⟨vs2, by rw [h1, k1], by rw [k2, h2], fun i c hc => k3 i c (h3 i c hc)⟩, by rw [hf.un, hg.un], fun p sh xs => by rw [hf.sl, hg.sl], fun sh => by rw [hf.nil0, hg.nil0]⟩
/-- Blocks under other names hold the same plain data. -/
def Kp (W : List Nm) (ns ns' : Nodes) : Prop := ∀ m, Away W m → (∀ fz sh xs, find m ns = some (.row fz sh xs) → find m ns' = some (.row fz sh xs)) ∧
  ∀ cs, find m ns = some (.obj cs) → ∃ cs' : List AVal, find m ns' = some (.obj cs') ∧ cs'.length = cs.length ∧ ∀ (j : Nat) c, cs[j]? = some (.v c) → cs'[j]? = some (.v c)
theorem Kp.refl (W : List Nm) (ns : Nodes) : Kp W ns ns := fun m _ => ⟨fun _ _ _ h => h, fun cs h => ⟨cs, h, rfl, fun _ _ h => h⟩⟩
theorem Kp.trans {W : List Nm} {a b c : Nodes} (h : Kp W a b) (k : Kp W b c) : Kp W a c := fun m hm =>
  ⟨fun fz sh xs hf => (k m hm).1 _ _ _ ((h m hm).1 _ _ _ hf), fun cs hf => by
    obtain ⟨cs1, h1, h2, h3⟩ := (h m hm).2 cs hf
    obtain ⟨cs2, k1, k2, k3⟩ := (k m hm).2 cs1 h1
    exact ⟨cs2, k1, k2.trans h2, fun j c hc => k3 j c (h3 j c hc)⟩⟩
theorem Kp.same {W : List Nm} {ns ns' : Nodes} (h : ∀ m, Away W m → find m ns' = find m ns) : Kp W ns ns' := fun m hm => by
  rw [h m hm]
  exact ⟨fun _ _ _ h => h, fun cs h => ⟨cs, h, rfl, fun _ _ h => h⟩⟩
theorem find_renN {σ : Nm → Sb} {m : Nm} (h1 : σ m = .to m) (h2 : ∀ q, σ q = .to m → q = m) : ∀ ns : Nodes, find m (renN σ ns) = (find m ns).map (·.ren σ)
  | [] => rfl
  | (q, n) :: l => by
    unfold renN
    by_cases e : q = m
    · subst e
      rw [h1]
      simp only [find, nmEq_refl, cond_true, Option.map_some]
    · have e1 : nmEq q m = false := nmEq_ne e
      cases eq : σ q with
      | gone => simp only [find, e1, cond_false]; exact find_renN h1 h2 l
      | to q' =>
        have hne : q' ≠ m := fun h => e (h2 q (by rw [eq, h]))
        simp only [find, e1, nmEq_ne hne, cond_false]
        exact find_renN h1 h2 l
theorem Kp.ren {W : List Nm} {σ : Nm → Sb} (h1 : ∀ m, Away W m → σ m = .to m) (h2 : ∀ m, Away W m → ∀ q, σ q = .to m → q = m) (ns : Nodes) : Kp W ns (renN σ ns) := fun m hm => by
  rw [find_renN (h1 m hm) (h2 m hm)]
  refine ⟨fun fz sh xs h => by rw [h]; rfl, fun cs h => ⟨_, by rw [h]; rfl, by simp, fun j c hc => ?_⟩⟩
  rw [List.getElem?_map, hc]
  rfl
theorem adoptR_mem {nm : Nm} : ∀ (us : List AVal) (j : Nat), ∀ p ∈ adoptR nm j us, (∃ sh o l, .osl p.1 sh o l ∈ us) ∧ ∃ q, p.2 = q :: nm
  | [], j, p, h => by simp [adoptR] at h
  | u :: us, j, p, h => by
    have hr := adoptR_mem (nm := nm) us (j + 1) p
    have rest : p ∈ adoptR nm (j + 1) us → (∃ sh o l, AVal.osl p.1 sh o l ∈ u :: us) ∧ ∃ q, p.2 = q :: nm := fun h => by
      obtain ⟨⟨sh, o, l, h1⟩, h2⟩ := hr h
      exact ⟨⟨sh, o, l, List.mem_cons_of_mem _ h1⟩, h2⟩
    cases u with
    | osl m sh o l =>
      rcases List.mem_cons.1 h with rfl | h
      · exact ⟨⟨sh, o, l, List.mem_cons_self⟩, j, rfl⟩
      · exact rest h
    | _ => exact rest h
theorem away_cons {W : List Nm} {nm m : Nm} (hn : nm ∈ W) (h : Away W m) (q : Nat) : m ≠ q :: nm := fun e => by
  have := h nm hn
  rw [e] at this
  have h2 := kin_app [q] nm
  rw [show [q] ++ nm = q :: nm from rfl] at h2
  first | (rw [h2] at this; cases this) | (rw [kin_comm, h2] at this; cases this)
theorem away_self {W : List Nm} {m w : Nm} (hw : w ∈ W) (h : Away W m) : m ≠ w := fun e => by
  have := h w hw
  rw [e, kin_refl] at this; cases this
theorem rebind_away {W : List Nm} {nm : Nm} (hn : nm ∈ W) {rs : List (Nm × Nm)} (hrs : ∀ p ∈ rs, p.1 ∈ W ∧ ∃ q, p.2 = q :: nm) {m : Nm} (hm : Away W m) : rebind rs m = .to m ∧ ∀ q, rebind rs q = .to m → q = m := by
  have hno : ∀ p ∈ rs, p.2 ≠ m := fun p hp e => by
    obtain ⟨q, hq⟩ := (hrs p hp).2
    exact away_cons hn hm q (e.symm.trans hq)
  constructor
  · unfold rebind
    cases e : lookR rs m with
    | some q => exact absurd rfl (away_self (hrs _ (lookR_mem e)).1 hm)
    | none =>
      have : rs.any (fun p => nmEq p.2 m) = false := by
        rw [List.any_eq_false]
        intro p hp h
        exact hno p hp (nmEq_iff.1 h)
      simp only [this, cond_false]
  · intro q h
    unfold rebind at h
    cases e : lookR rs q with
    | some q' =>
      rw [e] at h
      cases h
      exact absurd rfl (hno _ (lookR_mem e))
    | none =>
      rw [e] at h
      simp only at h
      cases ec : rs.any (fun p => nmEq p.2 q) with
      | true => rw [ec] at h; cases h
      | false => rw [ec] at h; cases h; rfl
theorem gone_away {W : List Nm} {nm : Nm} (hn : nm ∈ W) {ls : List Nm} (hls : ∀ p ∈ ls, ∃ q, p = q :: nm) {m : Nm} (hm : Away W m) : goneS ls m = .to m ∧ ∀ q, goneS ls q = .to m → q = m := by
  constructor
  · unfold goneS
    have : ls.any (fun p => nmEq p m) = false := by
      rw [List.any_eq_false]
      intro p hp h
      obtain ⟨q, hq⟩ := hls p hp
      exact away_cons hn hm q ((nmEq_iff.1 h).symm.trans hq)
    rw [this]; rfl
  · intro q h; exact (goneS_to h).symm
/-- Cells are laid in an object: the rest stays. -/
theorem lay2_light {nm : Nm} {j : Nat} {us : List AVal} {W : List Nm} (hn : nm ∈ W) {K : St → Option X} (h : s.lay2 nm j us K = some out) :
    ∃ ns, Kp W s.nodes ns ∧ K ⟨s.tmps, ns⟩ = some out ∧ ∀ ts (K' : St → Option Y), (⟨ts, s.nodes⟩ : St).lay2 nm j us K' = K' ⟨ts, ns⟩ := by
  unfold St.lay2 at h
  simp only at h
  split at h
  · next cs hf =>
    obtain ⟨h1, h⟩ := grd_some h
    refine ⟨_, Kp.same fun m hm => ?_, h, fun ts K' => ?_⟩
    · rw [find_insA _ _ (fun p hp e => ?_), find_upd_ne (away_self hn hm)]
      obtain ⟨q, hq⟩ := nilNodes_ne nm j us p hp
      exact away_cons hn hm q (e.symm.trans hq)
    · unfold St.lay2
      simp only [hf]
      rw [h1]; rfl
  · cases h
theorem rebind_gen {rs : List (Nm × Nm)} {W : List Nm} (hrs : ∀ p ∈ rs, p.1 ∈ W ∧ ∀ m, Away W m → p.2 ≠ m) {K : St → Option X} (h : s.rebind rs K = some out) :
    ∃ g ns, Gd W g ∧ Kp W s.nodes ns ∧ K ⟨s.tmps.map g, ns⟩ = some out ∧ (∀ ts (K' : St → Option Y), (⟨ts, s.nodes⟩ : St).rebind rs K' = K' ⟨ts.map g, ns⟩) := by
  have hw : ∀ m, Away W m → rebind rs m = .to m ∧ ∀ q, rebind rs q = .to m → q = m := fun m hm => by
    have hl : lookR rs m = none := by
      cases e : lookR rs m with
      | none => rfl
      | some m' => exact absurd rfl (away_self (hrs _ (lookR_mem e)).1 hm)
    constructor
    · unfold rebind
      rw [hl]
      have : rs.any (fun p => nmEq p.2 m) = false := by
        rw [List.any_eq_false]
        intro p hp h
        exact (hrs p hp).2 m hm (nmEq_iff.1 h)
      simp only [this, cond_false]
    · intro q h
      unfold rebind at h
      cases e : lookR rs q with
      | some q' =>
        rw [e] at h
        cases h
        exact absurd rfl ((hrs _ (lookR_mem e)).2 m hm)
      | none =>
        rw [e] at h
        simp only at h
        cases ec : rs.any (fun p => nmEq p.2 q) with
        | true => rw [ec] at h; cases h
        | false => rw [ec] at h; cases h; rfl
  unfold St.rebind at h
  cases e : sameR rs with
  | true =>
    rw [e] at h
    refine ⟨id, s.nodes, Gd.id W, Kp.refl _ _, by rw [List.map_id]; exact h, fun ts K' => ?_⟩
    unfold St.rebind
    rw [e, List.map_id]; rfl
  | false =>
    rw [e] at h
    simp only [cond_false] at h
    obtain ⟨h1, h⟩ := grd_some h
    refine ⟨_, _, Gd.ren (fun m hm => (hw m hm).1), Kp.ren (fun m hm => (hw m hm).1) (fun m hm => (hw m hm).2) _, h, fun ts K' => ?_⟩
    unfold St.rebind
    rw [e]
    show grd _ _ = _
    rw [show (St.ren (rebind rs) ⟨ts, s.nodes⟩).nodes = (s.ren (rebind rs)).nodes from rfl, h1]
    rfl
theorem rebind_light {rs : List (Nm × Nm)} {nm : Nm} {W : List Nm} (hn : nm ∈ W) (hrs : ∀ p ∈ rs, p.1 ∈ W ∧ ∃ q, p.2 = q :: nm) {K : St → Option X} (h : s.rebind rs K = some out) :
    ∃ g ns, Gd W g ∧ Kp W s.nodes ns ∧ K ⟨s.tmps.map g, ns⟩ = some out ∧ ∀ ts (K' : St → Option Y), (⟨ts, s.nodes⟩ : St).rebind rs K' = K' ⟨ts.map g, ns⟩ := by
  unfold St.rebind at h
  cases e : sameR rs with
  | true =>
    rw [e] at h
    refine ⟨id, s.nodes, Gd.id W, Kp.refl _ _, by rw [List.map_id]; exact h, fun ts K' => ?_⟩
    unfold St.rebind
    rw [e, List.map_id]; rfl
  | false =>
    rw [e] at h
    simp only [cond_false] at h
    obtain ⟨h1, h⟩ := grd_some h
    refine ⟨_, _, Gd.ren (fun m hm => (rebind_away hn hrs hm).1), Kp.ren (fun m hm => (rebind_away hn hrs hm).1) (fun m hm => (rebind_away hn hrs hm).2) _, h, fun ts K' => ?_⟩
    unfold St.rebind
    rw [e]
    simp only [cond_false]
    exact grd_t h1
theorem lay_light {nm : Nm} {j : Nat} {us : List AVal} {W : List Nm} (hn : nm ∈ W) (hus : ∀ m sh o l, .osl m sh o l ∈ us → m ∈ W) {K : St → Option X} (h : s.lay nm j us K = some out) :
    ∃ g ns, Gd W g ∧ Kp W s.nodes ns ∧ K ⟨s.tmps.map g, ns⟩ = some out ∧ ∀ ts (K' : St → Option Y), (⟨ts, s.nodes⟩ : St).lay nm j us K' = K' ⟨ts.map g, ns⟩ := by
  unfold St.lay at h
  have hrs : ∀ p ∈ adoptR nm j us, p.1 ∈ W ∧ ∃ q, p.2 = q :: nm := fun p hp => by
    obtain ⟨⟨sh, o, l, h1⟩, h2⟩ := adoptR_mem us j p hp
    exact ⟨hus _ _ _ _ h1, h2⟩
  obtain ⟨g, ns, hg, hk, h, k⟩ := rebind_light (Y := Y) hn hrs h
  have red : ∀ ts (K' : St → Option Y), (⟨ts, s.nodes⟩ : St).lay nm j us K' = (match nilNodes nm j (us.map (AVal.ren1 (rebind (adoptR nm j us)))) with
    | [] => (⟨ts.map g, ns⟩ : St).lay2 nm j (us.map (AVal.ren1 (rebind (adoptR nm j us)))) K'
    | nn => ((⟨ts.map g, ns⟩ : St).ren (goneS (nn.map (·.1)))).lay2 nm j ((us.map (AVal.ren1 (rebind (adoptR nm j us)))).map (AVal.ren1 (goneS (nn.map (·.1))))) K') := fun ts K' => by
    unfold St.lay
    rw [k]
    rfl
  have h' : (match nilNodes nm j (us.map (AVal.ren1 (rebind (adoptR nm j us)))) with
    | [] => (⟨s.tmps.map g, ns⟩ : St).lay2 nm j (us.map (AVal.ren1 (rebind (adoptR nm j us)))) K
    | nn => ((⟨s.tmps.map g, ns⟩ : St).ren (goneS (nn.map (·.1)))).lay2 nm j ((us.map (AVal.ren1 (rebind (adoptR nm j us)))).map (AVal.ren1 (goneS (nn.map (·.1))))) K) = some out := h
  cases e : nilNodes nm j (us.map (AVal.ren1 (rebind (adoptR nm j us)))) with
  | nil =>
    rw [e] at h'
    obtain ⟨ns2, hk2, h2, k2⟩ := lay2_light (Y := Y) hn h'
    exact ⟨g, ns2, hg, hk.trans hk2, h2, fun ts K' => (red ts K').trans (by rw [e]; exact k2 _ K')⟩
  | cons p nn =>
    rw [e] at h'
    have hls : ∀ q ∈ ((p :: nn).map (·.1)), ∃ a, q = a :: nm := fun q hq => by
      obtain ⟨r, hr, rfl⟩ := List.mem_map.1 hq
      exact nilNodes_ne nm j _ r (by rw [e]; exact hr)
    obtain ⟨ns2, hk2, h2, k2⟩ := lay2_light (Y := Y) hn h'
    have hk3 : Kp W ns (renN (goneS ((p :: nn).map (·.1))) ns) := Kp.ren (fun m hm => (gone_away hn hls hm).1) (fun m hm => (gone_away hn hls hm).2) ns
    refine ⟨fun a => (g a).ren (goneS ((p :: nn).map (·.1))), ns2, hg.comp (Gd.ren (fun m hm => (gone_away hn hls hm).1)), hk.trans (hk3.trans hk2), ?_, fun ts K' => (red ts K').trans ?_⟩
    · have : (s.tmps.map g).map (fun a => a.ren (goneS ((p :: nn).map (·.1)))) = s.tmps.map (fun a => (g a).ren (goneS ((p :: nn).map (·.1)))) := by rw [List.map_map]; rfl
      rw [← this]; exact h2
    · rw [e]
      have : (ts.map g).map (fun a => a.ren (goneS ((p :: nn).map (·.1)))) = ts.map (fun a => (g a).ren (goneS ((p :: nn).map (·.1)))) := by rw [List.map_map]; rfl
      rw [← this]
      exact k2 _ K'
theorem evStore_light {t : Nat} {nm : Nm} {i j : Nat} {x : AVal} {K : St → Option X} (h : evStore T s t (.ptr nm 0 i j) x K = some out) :
    ∃ g ns, Gd (nm :: x.names) g ∧ Kp (nm :: x.names) s.nodes ns ∧ K ⟨s.tmps.map g, ns⟩ = some out ∧ ∀ ts (K' : St → Option Y), evStore T ⟨ts, s.nodes⟩ t (.ptr nm 0 i j) x K' = K' ⟨ts.map g, ns⟩ := by
  cases hf : find nm s.nodes with
  | none => unfold evStore at h; simp only [hf] at h; cases h
  | some n =>
    cases n with
    | row fz sh xs =>
      obtain ⟨ns, h1, k, k2, _⟩ := evStore_rowG (Y := Y) hf h
      exact ⟨id, ns, Gd.id _, Kp.same fun m hm => k2 m (hm nm List.mem_cons_self) (fun q hq => hm q (List.mem_cons_of_mem _ hq)), by rw [List.map_id]; exact h1, fun ts K' => by rw [List.map_id]; exact k ts K'⟩
    | iter => unfold evStore at h; simp only [hf] at h; cases h
    | dead => unfold evStore at h; simp only [hf] at h; cases h
    | obj cs =>
      unfold evStore at h
      simp only [hf] at h
      obtain ⟨z, h, hz, k1⟩ := expand_fr (Y := Y) h
      obtain ⟨h1, h⟩ := grd_some h
      have hus : ∀ m sh o l, AVal.osl m sh o l ∈ (resize T t z).cells → m ∈ nm :: x.names := fun m sh o l hm => by
        refine List.mem_cons_of_mem _ ?_
        rcases hz with rfl | ⟨us, rfl, hs⟩
        · rw [← names_resize (T := T) (t := t) (x := z)]
          generalize resize T t z = r at hm
          cases r with
          | agg l => exact List.mem_flatMap.2 ⟨_, hm, List.mem_cons_self⟩
          | v c =>
            cases c with
            | agg l => simp [AVal.cells] at hm
            | _ => simp [AVal.cells] at hm
          | osl m' sh' o' l' =>
            simp only [AVal.cells, List.mem_singleton, AVal.osl.injEq] at hm
            rw [hm.1]; exact List.mem_cons_self
          | _ => simp [AVal.cells] at hm
        · have hm' : AVal.osl m sh o l ∈ us := hm
          have := List.all_eq_true.1 hs _ hm'
          cases this
      obtain ⟨g, ns, hg, hk, h2, k2⟩ := lay_light (Y := Y) List.mem_cons_self hus h
      refine ⟨g, ns, hg, hk, h2, fun ts K' => ?_⟩
      unfold evStore
      simp only [hf]
      refine (k1 _).trans ?_
      exact (grd_t h1).trans (k2 ts K')
theorem asgR_mem {ns : Nodes} {tgt m : Nm} {p : Nm × Nm} (h : p ∈ asgR ns tgt m) : p.1 = m ∧ p.2 = tgt := by
  unfold asgR at h
  split at h
  · cases h
  · next r q =>
    cases hb : (Nat.ble 1000 ((r :: q).getLastD 0) || isObjN (find q ns)) with
    | true => rw [hb] at h; cases h
    | false =>
      rw [hb] at h
      simp only [cond_false, List.mem_singleton] at h
      rw [h]; exact ⟨rfl, rfl⟩
theorem asgL_mem {ns : Nodes} {d : Nat} : ∀ (cs : List AVal) (j : Nat) {p : Nm × Nm}, p ∈ asgL ns d j cs → p.1 ∈ cs.flatMap AVal.names0 ∧ ∃ i, p.2 = [i, d]
  | [], j, p, h => by cases h
  | c :: cs, j, p, h => by
    have ih := asgL_mem (ns := ns) (d := d) cs (j + 1) (p := p)
    cases c with
    | osl m sh o l =>
      simp only [asgL, List.mem_append] at h
      rcases h with h | h
      · obtain ⟨h1, h2⟩ := asgR_mem h
        exact ⟨by rw [h1]; simp [AVal.names0], j, h2⟩
      · obtain ⟨h1, h2⟩ := ih h
        exact ⟨by rw [List.flatMap_cons]; exact List.mem_append_right _ h1, h2⟩
    | _ =>
      simp only [asgL] at h
      obtain ⟨h1, h2⟩ := ih h
      exact ⟨by rw [List.flatMap_cons]; exact List.mem_append_right _ h1, h2⟩
theorem asgAll_mem {ns : Nodes} {d : Nat} {x : AVal} {p : Nm × Nm} (h : p ∈ asgAll ns d x) : p.1 ∈ x.names ∧ (p.2 = [d] ∨ ∃ i, p.2 = [i, d]) := by
  cases x with
  | osl m sh o l => obtain ⟨h1, h2⟩ := asgR_mem h; exact ⟨by rw [h1]; simp [AVal.names, AVal.names0], .inl h2⟩
  | agg cs => obtain ⟨h1, h2⟩ := asgL_mem cs 0 h; exact ⟨h1, .inr h2⟩
  | _ => cases h
theorem evAssign_light {d : Option Tmp} {x : AVal} {K : St → Option X} (h : evAssign s d x K = some out) :
    ∃ g ns z, Gd (dstN d ++ x.names) g ∧ Kp (dstN d ++ x.names) s.nodes ns ∧ K ((⟨s.tmps.map g, ns⟩ : St).put d z) = some out ∧ ∀ ts (K' : St → Option Y), evAssign ⟨ts, s.nodes⟩ d x K' = K' ((⟨ts.map g, ns⟩ : St).put d z) := by
  cases d with
  | none => exact ⟨id, s.nodes, .undef, Gd.id _, Kp.refl _ _, by rw [List.map_id]; exact h, fun ts K' => by rw [List.map_id]; rfl⟩
  | some t =>
    have h' : s.rebind (asgAll s.nodes t x) (fun s' => K (s'.put (some t) (bif sameR (asgAll s.nodes t x) then x else x.ren (rebind (asgAll s.nodes t x))))) = some out := h
    obtain ⟨g, ns, hg, hk, h1, k⟩ := rebind_gen (Y := Y) (W := dstN (some t) ++ x.names) (fun p hp => by
      obtain ⟨h1, h2⟩ := asgAll_mem hp
      refine ⟨List.mem_append_right _ h1, fun m hm e => ?_⟩
      have hd : [t] ∈ dstN (some t) ++ x.names := List.mem_append_left _ List.mem_cons_self
      rcases h2 with h2 | ⟨i, h2⟩
      · exact away_self hd hm (e.symm.trans h2)
      · exact away_cons hd hm i (e.symm.trans h2)) h'
    exact ⟨g, ns, _, hg, hk, h1, fun ts K' => k ts (fun s' => K' (s'.put (some t) (bif sameR (asgAll s.nodes t x) then x else x.ren (rebind (asgAll s.nodes t x)))))⟩
/-- Of a store in an object, of a row that goes under another name. -/
theorem evOp_obj {ρ : Operand → AVal} {o : Oper} {s s1 : St} (hk : (footR cx ρ o).kd = 5) (h : evOpR cx ρ s o some = some s1) :
    ∃ g ns z, Gd (footR cx ρ o).wr g ∧ Kp (footR cx ρ o).wr s.nodes ns ∧ s1 = (⟨s.tmps.map g, ns⟩ : St).put o.dst z ∧ ∀ ts (K : St → Option St), evOpR cx ρ ⟨ts, s.nodes⟩ o K = K ((⟨ts.map g, ns⟩ : St).put o.dst z) := by
  obtain ⟨dst, op, ty, pos, aft, gd⟩ := o
  cases op with
  | store t x y =>
    have ef : footR cx ρ ⟨dst, .store t x y, ty, pos, aft, gd⟩ = (match ρ x with
      | .ptr nm (_ + 1) _ _ => ⟨[], nm :: (ρ y).names, false, true, 3⟩
      | .ptr nm 0 _ _ => ⟨[], nm :: (ρ y).names, true, true, 5⟩
      | _ => ⟨[], [], true, true, 0⟩) := rfl
    have e2 : ∀ (s' : St) (K' : St → Option St), evOpR cx ρ s' ⟨dst, .store t x y, ty, pos, aft, gd⟩ K' = evStore cx.T s' t (ρ x) (ρ y) (fun s => K' (s.put dst (.tup []))) := fun _ _ => rfl
    rw [ef] at hk ⊢
    split at hk
    · cases hk
    · next nm i j e =>
      have h' := (e2 s some).symm.trans h
      rw [e] at h'
      obtain ⟨g, ns, hg, hkp, h1, k⟩ := evStore_light (Y := St) h'
      refine ⟨g, ns, _, hg, hkp, (Option.some.inj h1).symm, fun ts K => (e2 _ _).trans ?_⟩
      rw [e]
      exact k ts _
    · cases hk
  | call c =>
    obtain ⟨callee, args, atys⟩ := c
    cases callee with
    | value f =>
      have hk' : (match ρ f with
        | .fn g caps => (⟨(resA cx.T atys.toList (args.toList.map ρ) ++ caps).flatMap AVal.names, dstN dst ++ ftArgs (cx.md g) 0 (resA cx.T atys.toList (args.toList.map ρ) ++ caps), false, true, 2⟩ : Ft)
        | _ => ⟨[], [], true, true, 0⟩).kd = 5 := hk
      split at hk' <;> cases hk'
    | builtin b => cases b <;> cases hk
    | invoke r m => cases hk
  | load t x =>
    have hk' : ldK cx.T t (ρ x) = 5 := hk
    rcases ldK_cases cx.T t (ρ x) with e | e | e <;> rw [e] at hk' <;> cases hk'
  | move x =>
    have hk' : (mvF (ρ x)).kd = 5 := hk
    rcases mvF_kd (ρ x) with e | e | e <;> rw [e] at hk' <;> cases hk'
  | nilCheck x =>
    have hk' : (mvF (ρ x)).kd = 5 := hk
    rcases mvF_kd (ρ x) with e | e | e <;> rw [e] at hk' <;> cases hk'
  | assign x =>
    have hk' : (asgF dst (ρ x)).kd = 5 := hk
    have ef : (footR cx ρ ⟨dst, .assign x, ty, pos, aft, gd⟩).wr = dstN dst ++ (resize cx.T ty (ρ x)).names := by
      show (asgF dst (ρ x)).wr = _
      rw [names_resize]
      unfold asgF at hk' ⊢
      split at hk'
      · cases hk'
      · next e => rw [e]
    rw [ef]
    obtain ⟨g, ns, z, hg, hkp, h1, k⟩ := evAssign_light (Y := St) (show evAssign s dst (resize cx.T ty (ρ x)) some = some s1 from h)
    exact ⟨g, ns, z, hg, hkp, (Option.some.inj h1).symm, fun ts K => k ts K⟩
  | indexAddr t x i =>
    have hk' : ixK (ρ x) = 5 := hk
    rcases ixK_cases (ρ x) with e | e <;> rw [e] at hk' <;> cases hk'
  | extract x i =>
    have hk' : extK (ρ x) i = 5 := hk
    unfold extK at hk'
    split at hk'
    · split at hk' <;> cases hk'
    · cases hk'
  | makeSlice t l c => exact (bit1 (b := softP cx.T t []) hk (by decide) (by decide)).elim
  | buildSlice t n ps => exact (bitK (T := cx.T) (t := t) (xs := ps.toList.map fun p : Nat × Operand => ρ p.2) hk (by decide) (by decide) (by decide)).elim
  | convert q1 q2 x => exact absurd ((cvF_kd cx.T q1 q2 (ρ x)).symm.trans hk) (by decide)
  | _ => cases hk
theorem leafT_typed {t : Nat} (h : isLeafT T t = true) {a : AVal} {K : AVal → Option X} (hk : typed T t a K = some out) : ∃ c, a = .v c ∧ ∃ c', K (.v c') = some out ∧ ∀ K' : AVal → Option Y, typed T t a K' = K' (.v c') := by
  unfold typed at hk
  cases a with
  | v c =>
    refine ⟨c, rfl, ?_⟩
    unfold isLeafT at h
    have hk' : leafZ (zeroT T t) c K = some out := hk
    have e : ∀ K' : AVal → Option Y, typed T t (.v c) K' = leafZ (zeroT T t) c K' := fun _ => rfl
    simp only [e]
    split at h
    · next e0 => rw [e0] at hk' ⊢; obtain ⟨h1, h2⟩ := grd_some hk'; exact ⟨_, h2, fun K' => grd_t h1⟩
    · next e0 => rw [e0] at hk' ⊢; obtain ⟨h1, h2⟩ := grd_some hk'; exact ⟨_, h2, fun K' => grd_t h1⟩
    · next e0 => rw [e0] at hk' ⊢; obtain ⟨h1, h2⟩ := grd_some hk'; exact ⟨_, h2, fun K' => grd_t h1⟩
    · cases h
  | _ => simp only [h, cond_true] at hk; cases hk
/-- What a load of plain data finds, where blocks hold the same. -/
theorem evLoad_light {t : Nat} (hl : isLeafT T t = true) (ha : isAggT T t = false) {a : AVal} {ns : Nodes} {K : AVal → Option X} (h : evLoad T ns t a K = some out) : ∃ c, K (.v c) = some out ∧ ∀ (W : List Nm) (ns' : Nodes), (∀ m ∈ a.names, Away W m) → Kp W ns ns' → ∀ K' : AVal → Option Y, evLoad T ns' t a K' = K' (.v c) := by
  unfold evLoad at h ⊢
  unfold evLoad0 at h ⊢
  cases a with
  | ptr nm sz i j =>
    simp only at h ⊢
    split at h
    · next cs hf =>
      obtain ⟨h1, h⟩ := grd_some h
      rw [ha] at h
      simp only [cond_false] at h
      obtain ⟨c, hc, h⟩ := Option.bind_eq_some_iff.1 h
      obtain ⟨c0, rfl, c', h2, k⟩ := leafT_typed (Y := Y) hl h
      refine ⟨c', h2, fun W ns' hW hk K' => ?_⟩
      obtain ⟨cs', hf', hlen, hv⟩ := (hk nm (hW nm List.mem_cons_self)).2 cs hf
      simp only [hf', ha, cond_false, hv j c0 hc, Option.bind_some]
      exact (grd_t h1).trans (k K')
    · next fz sh xs hf =>
      obtain ⟨h1, h⟩ := grd_some h
      cases sh with
      | none =>
        unfold flatLoad at h
        rw [ha] at h
        simp only [cond_false] at h
        obtain ⟨c, hc, h⟩ := Option.bind_eq_some_iff.1 h
        obtain ⟨c0, hc0, c', h2, k⟩ := leafT_typed (Y := Y) hl h
        refine ⟨c', h2, fun W ns' hW hk K' => ?_⟩
        have hf' := (hk nm (hW nm List.mem_cons_self)).1 _ _ _ hf
        simp only [hf', flatLoad, ha, cond_false, hc, Option.bind_some]
        exact (grd_t h1).trans (k K')
      | some n0 =>
      generalize hsh : some n0 = sh at *
      simp only [← hsh] at h
      simp only [hsh] at h
      obtain ⟨e, he, h⟩ := Option.bind_eq_some_iff.1 h
      have el : ∀ {Z : Type} (K' : AVal → Option Z), ∃ r : Option CV, elemLoad T t sh e j K' = r.bind (fun c => K' (.v c)) ∧ ∀ {Z' : Type} (K'' : AVal → Option Z'), elemLoad T t sh e j K'' = r.bind (fun c => K'' (.v c)) := fun {Z} K' => by
        unfold elemLoad
        cases sh with
        | none =>
          refine ⟨bif (!isAggT T t) && Nat.beq j 0 then some e else none, ?_, fun {Z'} K'' => ?_⟩ <;> rw [ha] <;> cases Nat.beq j 0 <;> rfl
        | some n => refine ⟨e.cell j, ?_, fun {Z'} K'' => ?_⟩ <;> rw [ha] <;> rfl
      obtain ⟨r, e1, e2⟩ := el (fun v => typed T t v K)
      rw [e1] at h
      obtain ⟨c, hc, h⟩ := Option.bind_eq_some_iff.1 h
      obtain ⟨c0, hc0, c', h2, k⟩ := leafT_typed (Y := Y) hl h
      refine ⟨c', h2, fun W ns' hW hk K' => ?_⟩
      have hf' := (hk nm (hW nm List.mem_cons_self)).1 _ _ _ hf
      simp only [hf', ← hsh, he, Option.bind_some]
      simp only [hsh]
      refine (grd_t h1).trans ?_
      rw [e2, hc]
      exact k K'
    · cases h
  | bptr sh x j =>
    simp only at h ⊢
    obtain ⟨h1, h⟩ := grd_some h
    have el : ∀ {Z : Type} (K' : AVal → Option Z), ∃ r : Option CV, elemLoad T t sh x j K' = r.bind (fun c => K' (.v c)) ∧ ∀ {Z' : Type} (K'' : AVal → Option Z'), elemLoad T t sh x j K'' = r.bind (fun c => K'' (.v c)) := fun {Z} K' => by
      unfold elemLoad
      cases sh with
      | none =>
        refine ⟨bif (!isAggT T t) && Nat.beq j 0 then some x else none, ?_, fun {Z'} K'' => ?_⟩ <;> rw [ha] <;> cases Nat.beq j 0 <;> rfl
      | some n => refine ⟨x.cell j, ?_, fun {Z'} K'' => ?_⟩ <;> rw [ha] <;> rfl
    obtain ⟨r, e1, e2⟩ := el (fun v => typed T t v K)
    rw [e1] at h
    obtain ⟨c, hc, h⟩ := Option.bind_eq_some_iff.1 h
    obtain ⟨c0, hc0, c', h2, k⟩ := leafT_typed (Y := Y) hl h
    refine ⟨c', h2, fun W ns' hW hk K' => ?_⟩
    refine (grd_t h1).trans ?_
    rw [e2, hc]
    exact k K'
  | _ => cases h
theorem Gd.fix {W : List Nm} {g : AVal → AVal} (hg : Gd W g) {a : AVal} (h : (∃ c, a = .v c) ∨ (∃ nm sz i j, a = .ptr nm sz i j ∧ Away W nm) ∨ ∃ sh x j, a = .bptr sh x j) : g a = a := by
  rcases h with ⟨c, rfl⟩ | ⟨nm, sz, i, j, rfl, h⟩ | ⟨sh, x, j, rfl⟩
  · exact hg.v c
  · exact hg.ptr _ _ _ _ h
  · exact hg.bptr _ _ _
theorem Gd.lite {W : List Nm} {g : AVal → AVal} (hg : Gd W g) {a : AVal} (h : liteV a = true) : g a = a := by
  cases a with
  | v c => exact hg.v c
  | sl p sh xs => exact hg.sl p sh xs
  | bptr sh x j => exact hg.bptr sh x j
  | nil0 sh => exact hg.nil0 sh
  | _ => cases h
theorem elemLoad_v {t : Nat} {sh : Option Nat} {e : CV} {j : Nat} : ∃ r : Option CV, ∀ {Z : Type} (K : AVal → Option Z), elemLoad T t sh e j K = r.bind (fun c => K (.v c)) := by
  cases sh with
  | none =>
    refine ⟨bif (!isAggT T t) && Nat.beq j 0 then some e else none, fun {Z} K => ?_⟩
    unfold elemLoad
    cases (isAggT T t) <;> cases Nat.beq j 0 <;> rfl
  | some n =>
    refine ⟨bif isAggT T t then (bif Nat.beq j 0 && Nat.beq (sizeT T t) n then some e else e.part j (sizeT T t)) else e.cell j, fun {Z} K => ?_⟩
    show (bif isAggT T t then (bif Nat.beq j 0 && Nat.beq (sizeT T t) n then K (.v e) else Option.bind (e.part j (sizeT T t)) fun c => K (.v c)) else Option.bind (e.cell j) fun c => K (.v c)) = _
    cases isAggT T t <;> cases (Nat.beq j 0 && Nat.beq (sizeT T t) n) <;> rfl
theorem typed_lite {t : Nat} {c : CV} {K : AVal → Option X} (h : typed T t (.v c) K = some out) : ∃ z, liteV z = true ∧ K z = some out ∧ ∀ K' : AVal → Option Y, typed T t (.v c) K' = K' z := by
  have h' : leafZ (zeroT T t) c K = some out := h
  have e : ∀ K' : AVal → Option Y, typed T t (.v c) K' = leafZ (zeroT T t) c K' := fun _ => rfl
  simp only [e]
  unfold leafZ at h' ⊢
  split at h'
  · obtain ⟨h1, h2⟩ := grd_some h'; exact ⟨_, rfl, h2, fun K' => grd_t h1⟩
  · obtain ⟨h1, h2⟩ := grd_some h'; exact ⟨_, rfl, h2, fun K' => grd_t h1⟩
  · obtain ⟨h1, h2⟩ := grd_some h'; exact ⟨_, rfl, h2, fun K' => grd_t h1⟩
  · obtain ⟨h1, h2⟩ := grd_some h'; exact ⟨_, rfl, h2, fun K' => grd_t h1⟩
  · exact ⟨_, rfl, h', fun K' => rfl⟩
theorem evLoad_bptr {t j : Nat} {sh : Option Nat} {y : CV} {ns : Nodes} {K : AVal → Option X} (h : evLoad T ns t (.bptr sh y j) K = some out) : ∃ z, liteV z = true ∧ K z = some out ∧ ∀ ns' (K' : AVal → Option Y), evLoad T ns' t (.bptr sh y j) K' = K' z := by
  unfold evLoad at h ⊢
  unfold evLoad0 at h ⊢
  simp only at h ⊢
  obtain ⟨h1, h⟩ := grd_some h
  obtain ⟨r, e1⟩ := elemLoad_v (T := T) (t := t) (sh := sh) (e := y) (j := j)
  rw [e1] at h
  obtain ⟨c, hc, h⟩ := Option.bind_eq_some_iff.1 h
  obtain ⟨z, hz, h2, k⟩ := typed_lite (Y := Y) h
  refine ⟨z, hz, h2, fun ns' K' => ?_⟩
  refine (grd_t h1).trans ?_
  rw [e1, hc]
  exact k K'
/-- A state whose temporaries were turned so, as far as they are looked at. -/
def Turned (g : AVal → AVal) (o : Oper) (s s' : St) : Prop := ∀ t, Operand.tmp t ∈ o.op.operands → nth s'.tmps t = g (nth s.tmps t)
theorem Turned.eval {g : AVal → AVal} {o : Oper} {s s' : St} (h : Turned g o s s') {x : Operand} (hx : x ∈ o.op.operands) (hf : g (s.eval x) = s.eval x) : s'.eval x = s.eval x := by
  cases x with
  | tmp t => exact (h t hx).trans hf
  | _ => rfl
theorem mvF_light {t : Nat} {a : AVal} (hk : 6 ≤ (mvF a).kd) {W : List Nm} {g : AVal → AVal} (hg : Gd W g) (hr : ∀ m ∈ (mvF a).rd, Away W m) : g a = a ∧ g (resize T t a) = resize T t a := by
  have lite : ∀ b : AVal, liteV b = true → g b = b ∧ g (resize T t b) = resize T t b := fun b hl => by
    refine ⟨hg.lite hl, hg.lite ?_⟩
    unfold resize
    cases b with
    | nil0 sh => simp only; split <;> rfl
    | _ => exact hl
  have fin : 6 ≤ mvK a → liteV a = true := fun h => by
    unfold mvK at h
    cases e : liteV a with
    | true => rfl
    | false => rw [e] at h; exact absurd (show 6 ≤ 0 from h) (by decide)
  cases a with
  | ptr nm sz i j => exact ⟨hg.ptr _ _ _ _ (hr nm List.mem_cons_self), hg.ptr _ _ _ _ (hr nm List.mem_cons_self)⟩
  | _ => exact lite _ (fin hk)
/-- Of who takes but plain data. -/
theorem evOp_light {o : Oper} {s s1 : St} (hk : 6 ≤ (footR cx s.eval o).kd) (hk8 : (footR cx s.eval o).kd ≤ 8) (h : evOpR cx s.eval s o some = some s1) :
    ∃ z, s1 = s.put o.dst z ∧ ∀ (W : List Nm) (g : AVal → AVal) (s' : St), Gd W g → Kp W s.nodes s'.nodes → (∀ m ∈ (footR cx s.eval o).rd, Away W m) → Turned g o s s' →
      g z = z ∧ footR cx s'.eval o = footR cx s.eval o ∧ evOpR cx s'.eval s' o some = some (s'.put o.dst z) := by
  obtain ⟨dst, op, ty, pos, aft, gd⟩ := o
  cases op with
  | load t x =>
    have h' : evLoad cx.T s.nodes t (s.eval x) (fun v => grd (ptrV cx.T t v) (some (s.put dst v))) = some s1 := h
    cases e : (isLeafT cx.T t && !isAggT cx.T t) with
    | false =>
      have hk' : 6 ≤ ldK cx.T t (s.eval x) := hk
      have hk9 : ldK cx.T t (s.eval x) ≤ 8 := hk8
      unfold ldK at hk' hk9
      rw [e] at hk' hk9
      generalize he : s.eval x = a at hk' hk9 h'
      cases a with
      | bptr sh y j =>
        obtain ⟨z, hz, h1, k⟩ := evLoad_bptr (Y := St) h'
        obtain ⟨hp, h1⟩ := grd_some h1
        refine ⟨z, (Option.some.inj h1).symm, fun W g s' hg hkp hr ht => ?_⟩
        have hev := ht.eval (x := x) (by simp [Op.operands]) (hg.lite (by rw [he]; rfl))
        refine ⟨hg.lite hz, ?_, ?_⟩
        · show (⟨(s'.eval x).names, [], false, false, ldK cx.T t (s'.eval x)⟩ : Ft) = ⟨(s.eval x).names, [], false, false, ldK cx.T t (s.eval x)⟩
          rw [hev]
        · show evLoad cx.T s'.nodes t (s'.eval x) (fun v => grd (ptrV cx.T t v) (some (s'.put dst v))) = _
          rw [hev, he]
          exact (k _ _).trans (by rw [hp]; rfl)
      | ptr nm sz i j =>
        cases sz with
        | succ sz => exact absurd (show 6 ≤ 0 from hk') (by decide)
        | zero =>
        have hk1 : 6 ≤ (bif isPtrT cx.T t && !isAggT cx.T t then 9 else 0) := hk'
        have hk2 : (bif isPtrT cx.T t && !isAggT cx.T t then 9 else 0) ≤ 8 := hk9
        cases e2 : (isPtrT cx.T t && !isAggT cx.T t) with
        | true => rw [e2] at hk2; exact absurd (show 9 ≤ 8 from hk2) (by decide)
        | false => rw [e2] at hk1; exact absurd (show 6 ≤ 0 from hk1) (by decide)
      | _ => exact absurd (show 6 ≤ 0 from hk') (by decide)
    | true =>
      rw [Bool.and_eq_true, Bool.not_eq_true'] at e
      obtain ⟨c0, h0, k⟩ := evLoad_light (Y := St) e.1 e.2 h'
      obtain ⟨hp, h0⟩ := grd_some h0
      refine ⟨.v c0, (Option.some.inj h0).symm, fun W g s' hg hkp hr ht => ?_⟩
      have hform : g (s.eval x) = s.eval x := by
        refine hg.fix ?_
        generalize he : s.eval x = a at h'
        cases a with
        | ptr nm sz i j => exact .inr (.inl ⟨nm, sz, i, j, rfl, hr nm (by show nm ∈ (s.eval x).names; rw [he]; exact List.mem_cons_self)⟩)
        | bptr sh y j => exact .inr (.inr ⟨_, _, _, rfl⟩)
        | _ => cases h'
      have hev := ht.eval (x := x) (by simp [Op.operands]) hform
      refine ⟨hg.v _, ?_, ?_⟩
      · show (⟨(s'.eval x).names, [], false, false, ldK cx.T t (s'.eval x)⟩ : Ft) = ⟨(s.eval x).names, [], false, false, ldK cx.T t (s.eval x)⟩
        rw [hev]
      · show evLoad cx.T s'.nodes t (s'.eval x) (fun v => grd (ptrV cx.T t v) (some (s'.put dst v))) = _
        rw [hev]
        exact (k W _ (fun m hm => hr m hm) hkp _).trans (by rw [hp]; rfl)
  | move x =>
    have hk' : 6 ≤ (mvF (s.eval x)).kd := hk
    have key : ∀ (W : List Nm) (g : AVal → AVal), Gd W g → (∀ m ∈ (mvF (s.eval x)).rd, Away W m) → g (s.eval x) = s.eval x ∧ g (resize cx.T ty (s.eval x)) = resize cx.T ty (s.eval x) := fun W g hg hr => mvF_light hk' hg hr
    refine ⟨resize cx.T ty (s.eval x), (Option.some.inj h).symm, fun W g s' hg hkp hr ht => ?_⟩
    obtain ⟨h1, h2⟩ := key W g hg hr
    have hev := ht.eval (x := x) (by simp [Op.operands]) h1
    refine ⟨h2, ?_, ?_⟩
    · show mvF (s'.eval x) = mvF (s.eval x)
      rw [hev]
    · show some (s'.put dst (resize cx.T ty (s'.eval x))) = _
      rw [hev]
  | nilCheck x =>
    have hk' : 6 ≤ (mvF (s.eval x)).kd := hk
    have h' : (match s.eval x with
      | .ptr nm sz i j => some (s.put dst (.ptr nm sz i j))
      | .bptr sh x j => some (s.put dst (.bptr sh x j))
      | .fn g cs => some (s.put dst (.fn g cs))
      | _ => none) = some s1 := h
    have hz : s1 = s.put dst (s.eval x) ∧ ∀ (s' : St), (match s.eval x with
      | .ptr nm sz i j => some (s'.put dst (.ptr nm sz i j))
      | .bptr sh x j => some (s'.put dst (.bptr sh x j))
      | .fn g cs => some (s'.put dst (.fn g cs))
      | _ => none) = some (s'.put dst (s.eval x)) := by
      generalize s.eval x = a at h'
      cases a <;> first | (cases h'; done) | exact ⟨(Option.some.inj h').symm, fun _ => rfl⟩
    refine ⟨s.eval x, hz.1, fun W g s' hg hkp hr ht => ?_⟩
    obtain ⟨h1, _⟩ := mvF_light (T := cx.T) (t := ty) hk' hg hr
    have hev := ht.eval (x := x) (by simp [Op.operands]) h1
    refine ⟨h1, ?_, ?_⟩
    · show mvF (s'.eval x) = mvF (s.eval x)
      rw [hev]
    · show (match s'.eval x with
        | .ptr nm sz i j => some (s'.put dst (.ptr nm sz i j))
        | .bptr sh x j => some (s'.put dst (.bptr sh x j))
        | .fn g cs => some (s'.put dst (.fn g cs))
        | _ => none) = _
      rw [hev]
      exact hz.2 s'
  | assign x =>
    have hk' : 6 ≤ (asgF dst (s.eval x)).kd := hk
    rcases asgF_kd dst (s.eval x) with e | e <;> rw [e] at hk' <;> exact absurd hk' (by decide)
  | indexAddr t x i =>
    have hk' : 6 ≤ ixK (s.eval x) := hk
    have h' : evIndexAddr cx.T s.nodes t (s.eval x) (s.eval i) (fun v => some (s.put dst v)) = some s1 := h
    have hl : liteV (s.eval x) = true ∧ (s.eval x).names = [] := by
      unfold ixK at hk'
      split at hk'
      · next e => rw [e]; exact ⟨rfl, rfl⟩
      · next e => rw [e]; exact ⟨rfl, rfl⟩
      · exact absurd (show 6 ≤ 4 from hk') (by decide)
    have hi : ∃ c, s.eval i = .v c := by
      unfold evIndexAddr asI at h'
      split at h'
      · next e => exact ⟨_, e⟩
      · cases h'
    obtain ⟨ci, hi⟩ := hi
    have hz : ∃ z, liteV z = true ∧ s.put dst z = s1 ∧ ∀ ns' (K' : AVal → Option St), evIndexAddr cx.T ns' t (s.eval x) (s.eval i) K' = K' z := by
      generalize s.eval x = a at hk' h' hl
      rw [hi] at h' ⊢
      unfold evIndexAddr at h' ⊢
      obtain ⟨i', h', k1⟩ := asI_fr (Y := St) h'
      simp only [k1]
      cases a with
      | sl p sh xs =>
        obtain ⟨h1, h2⟩ := grd_some h'
        obtain ⟨h3, h2⟩ := grd_some h2
        obtain ⟨y, h4, h2⟩ := Option.bind_eq_some_iff.1 h2
        exact ⟨_, rfl, Option.some.inj h2, fun ns' K' => by simp only [h1, h3, h4, grd, cond_true, Option.bind_some]⟩
      | v c =>
        cases c with
        | slc sh xs =>
          obtain ⟨h1, h2⟩ := grd_some h'
          obtain ⟨h3, h2⟩ := grd_some h2
          obtain ⟨y, h4, h2⟩ := Option.bind_eq_some_iff.1 h2
          exact ⟨_, rfl, Option.some.inj h2, fun ns' K' => by simp only [h1, h3, h4, grd, cond_true, Option.bind_some]⟩
        | _ => cases h'
      | _ => exact absurd (show 6 ≤ 4 from hk') (by decide)
    obtain ⟨z, hz, h1, k⟩ := hz
    refine ⟨z, h1.symm, fun W g s' hg hkp hr ht => ?_⟩
    have hev := ht.eval (x := x) (by simp [Op.operands]) (hg.lite hl.1)
    have hev2 := ht.eval (x := i) (by simp [Op.operands]) (by rw [hi]; exact hg.v _)
    refine ⟨hg.lite hz, ?_, ?_⟩
    · show (⟨(s'.eval x).names, [], false, false, ixK (s'.eval x)⟩ : Ft) = ⟨(s.eval x).names, [], false, false, ixK (s.eval x)⟩
      rw [hev]
    · show evIndexAddr cx.T s'.nodes t (s'.eval x) (s'.eval i) (fun v => some (s'.put dst v)) = _
      rw [hev, hev2]
      exact k _ _
  | fieldAddr t x f =>
    have h' : evFieldAddr cx.T t (s.eval x) f (fun v => some (s.put dst v)) = some s1 := h
    have hz : ∃ z, s.put dst z = s1 ∧ (∀ K' : AVal → Option St, evFieldAddr cx.T t (s.eval x) f K' = K' z) ∧ ((∃ nm sz i j j', s.eval x = .ptr nm sz i j ∧ z = .ptr nm sz i j') ∨ ∃ sh y j j', s.eval x = .bptr sh y j ∧ z = .bptr sh y j') := by
      generalize s.eval x = a at h'
      unfold evFieldAddr at h' ⊢
      split at h'
      · next fs sz by_ z0 e =>
        obtain ⟨⟨off, ft⟩, h1, h2⟩ := Option.bind_eq_some_iff.1 h'
        cases a with
        | ptr nm sz i j =>
          obtain ⟨h3, h4⟩ := grd_some h2
          exact ⟨_, Option.some.inj h4, fun K' => by simp only [h1, Option.bind_some]; exact grd_t h3, .inl ⟨_, _, _, _, _, rfl, rfl⟩⟩
        | bptr sh y j =>
          obtain ⟨h3, h4⟩ := grd_some h2
          exact ⟨_, Option.some.inj h4, fun K' => by simp only [h1, Option.bind_some]; exact grd_t h3, .inr ⟨_, _, _, _, rfl, rfl⟩⟩
        | _ => cases h2
      · cases h'
    obtain ⟨z, h1, k, hf⟩ := hz
    refine ⟨z, h1.symm, fun W g s' hg hkp hr ht => ?_⟩
    have hfix : g (s.eval x) = s.eval x ∧ g z = z := by
      rcases hf with ⟨nm, sz, i, j, j', e1, rfl⟩ | ⟨sh, y, j, j', e1, rfl⟩
      · have ha : Away W nm := hr nm (by show nm ∈ (s.eval x).names; rw [e1]; exact List.mem_cons_self)
        rw [e1]
        exact ⟨hg.ptr _ _ _ _ ha, hg.ptr _ _ _ _ ha⟩
      · rw [e1]; exact ⟨hg.bptr _ _ _, hg.bptr _ _ _⟩
    have hev := ht.eval (x := x) (by simp [Op.operands]) hfix.1
    refine ⟨hfix.2, ?_, ?_⟩
    · show (⟨(s'.eval x).names, [], false, false, _⟩ : Ft) = ⟨(s.eval x).names, [], false, false, _⟩
      rw [hev]
    · show evFieldAddr cx.T t (s'.eval x) f (fun v => some (s'.put dst v)) = _
      rw [hev]
      exact k _
  | unOp u t x =>
    have h' : evUn u (s.eval x) (fun v => some (s.put dst v)) = some s1 := h
    have hz : ∃ z, s.put dst z = s1 ∧ (∀ K' : AVal → Option St, evUn u (s.eval x) K' = K' z) ∧ (∃ c, s.eval x = .v c) ∧ ∃ c, z = .v c := by
      generalize s.eval x = a at h'
      unfold evUn at h' ⊢
      split at h'
      · exact ⟨_, Option.some.inj h', fun K' => rfl, ⟨_, rfl⟩, _, rfl⟩
      · exact ⟨_, Option.some.inj h', fun K' => rfl, ⟨_, rfl⟩, _, rfl⟩
      · exact ⟨_, Option.some.inj h', fun K' => rfl, ⟨_, rfl⟩, _, rfl⟩
      · cases h'
    obtain ⟨z, h1, k, ⟨c, e1⟩, c', rfl⟩ := hz
    refine ⟨_, h1.symm, fun W g s' hg hkp hr ht => ?_⟩
    have hev := ht.eval (x := x) (by simp [Op.operands]) (by rw [e1]; exact hg.v _)
    refine ⟨hg.v _, ?_, ?_⟩
    · show (⟨(s'.eval x).names, [], false, false, _⟩ : Ft) = ⟨(s.eval x).names, [], false, false, _⟩
      rw [hev]
    · show evUn u (s'.eval x) (fun v => some (s'.put dst v)) = _
      rw [hev]
      exact k _
  | extract x i =>
    have hk' : 6 ≤ extK (s.eval x) i := hk
    have h' : (match s.eval x with
      | .tup vs => grd (Nat.blt i vs.length) (some (s.put dst (nth vs i)))
      | _ => none) = some s1 := h
    cases x with
    | tmp t =>
      generalize he : s.eval (.tmp t) = a at hk' h'
      cases a with
      | tup vs =>
        obtain ⟨h1, h2⟩ := grd_some h'
        have hv : ∃ c, nth vs i = .v c := by
          unfold extK at hk'
          simp only at hk'
          split at hk'
          · next c e => exact ⟨c, e⟩
          · exact absurd hk' (by decide)
        obtain ⟨c, hc⟩ := hv
        refine ⟨.v c, by rw [← hc]; exact (Option.some.inj h2).symm, fun W g s' hg hkp hr ht => ?_⟩
        obtain ⟨vs', e1, e2, e3⟩ := hg.tup vs
        have hev : s'.eval (.tmp t) = .tup vs' := by
          have := ht t (by simp [Op.operands])
          show nth s'.tmps t = _
          rw [this, show nth s.tmps t = .tup vs from he, e1]
        refine ⟨hg.v _, ?_, ?_⟩
        · show (⟨[], [], false, false, extK (s'.eval (.tmp t)) i⟩ : Ft) = ⟨[], [], false, false, extK (s.eval (.tmp t)) i⟩
          rw [hev, he]
          simp only [extK, hc, e3 i c hc]
        · show (match s'.eval (.tmp t) with
            | .tup vs => grd (Nat.blt i vs.length) (some (s'.put dst (nth vs i)))
            | _ => none) = _
          rw [hev]
          simp only [e3 i c hc, e2, h1, grd, cond_true]
      | _ => cases h'
    | const v => cases v <;> first | (cases h'; done) | (rename_i A n c; cases A <;> cases n <;> cases c <;> cases h') | (rename_i p; cases p <;> cases h')
    | global g =>
      have hgl : s.eval (.global g) = (match globs g with
        | some (n, cs) => .bptr (some n) (.agg cs) 0
        | none => .undef) := rfl
      rw [hgl] at h'
      cases hq : globs g with
      | none => rw [hq] at h'; cases h'
      | some p => rw [hq] at h'; cases h'
    | func f => cases h'
  | store t x y =>
    have hk' : 6 ≤ (match s.eval x with
      | .ptr nm (_ + 1) _ _ => (⟨[], nm :: (s.eval y).names, false, true, 3⟩ : Ft)
      | .ptr nm 0 _ _ => ⟨[], nm :: (s.eval y).names, true, true, 5⟩
      | _ => ⟨[], [], true, true, 0⟩).kd := hk
    split at hk' <;> (first | exact absurd (show 6 ≤ 0 from hk') (by decide) | exact absurd (show 6 ≤ 1 from hk') (by decide) | exact absurd (show 6 ≤ 2 from hk') (by decide) | exact absurd (show 6 ≤ 3 from hk') (by decide) | exact absurd (show 6 ≤ 4 from hk') (by decide) | exact absurd (show 6 ≤ 5 from hk') (by decide))
  | call c =>
    obtain ⟨callee, args, atys⟩ := c
    cases callee with
    | value f =>
      have hk' : 6 ≤ (match s.eval f with
        | .fn g caps => (⟨(resA cx.T atys.toList (args.toList.map s.eval) ++ caps).flatMap AVal.names, dstN dst ++ ftArgs (cx.md g) 0 (resA cx.T atys.toList (args.toList.map s.eval) ++ caps), false, true, 2⟩ : Ft)
        | _ => ⟨[], [], true, true, 0⟩).kd := hk
      split at hk' <;> (first | exact absurd (show 6 ≤ 0 from hk') (by decide) | exact absurd (show 6 ≤ 1 from hk') (by decide) | exact absurd (show 6 ≤ 2 from hk') (by decide) | exact absurd (show 6 ≤ 3 from hk') (by decide) | exact absurd (show 6 ≤ 4 from hk') (by decide) | exact absurd (show 6 ≤ 5 from hk') (by decide))
    | builtin b => cases b <;> (first | exact absurd (show 6 ≤ 0 from hk) (by decide) | exact absurd (show 6 ≤ 1 from hk) (by decide) | exact absurd (show 6 ≤ 2 from hk) (by decide) | exact absurd (show 6 ≤ 3 from hk) (by decide) | exact absurd (show 6 ≤ 4 from hk) (by decide) | exact absurd (show 6 ≤ 5 from hk) (by decide))
    | invoke r m => first | exact absurd (show 6 ≤ 0 from hk) (by decide) | exact absurd (show 6 ≤ 1 from hk) (by decide) | exact absurd (show 6 ≤ 2 from hk) (by decide) | exact absurd (show 6 ≤ 3 from hk) (by decide) | exact absurd (show 6 ≤ 4 from hk) (by decide) | exact absurd (show 6 ≤ 5 from hk) (by decide)
  | makeSlice t l c =>
    have hk' : 6 ≤ (bif softP cx.T t [] then 1 else 0 : Nat) := hk
    cases e : softP cx.T t [] <;> rw [e] at hk' <;> exact absurd hk' (by decide)
  | buildSlice t n ps =>
    have hk' : 6 ≤ bsK cx.T t (ps.toList.map fun p : Nat × Operand => s.eval p.2) := hk
    have hk8' : bsK cx.T t (ps.toList.map fun p : Nat × Operand => s.eval p.2) ≤ 8 := hk8
    rcases bsK_cases cx.T t (ps.toList.map fun p : Nat × Operand => s.eval p.2) with e | e | e <;> rw [e] at hk' hk8'
    · exact absurd hk' (by decide)
    · exact absurd hk8' (by decide)
    · exact absurd hk' (by decide)
  | convert q1 q2 x => exact absurd (show 6 ≤ 0 from (cvF_kd cx.T q1 q2 (s.eval x)) ▸ hk) (by decide)
  | _ => first | exact absurd (show 6 ≤ 0 from hk) (by decide) | exact absurd (show 6 ≤ 1 from hk) (by decide) | exact absurd (show 6 ≤ 2 from hk) (by decide) | exact absurd (show 6 ≤ 3 from hk) (by decide) | exact absurd (show 6 ≤ 4 from hk) (by decide) | exact absurd (show 6 ≤ 5 from hk) (by decide)
end
end Go.Proofs.YtlaojkheenobaaaDoorS
