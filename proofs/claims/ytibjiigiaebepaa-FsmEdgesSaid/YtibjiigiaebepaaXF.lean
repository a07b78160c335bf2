/- Words of this session's own on function values handed to the library's slices functions, over the kit's kinds. -/
import Derived.Test.YtibjiigiaebepaaXW
import Derived.Shelf.SlicesQ.IndexFunc
import Derived.Ground.SlgfProg
namespace Go.Proofs.Ytibjiigiaebepaa.XF
open Go.Shelf Go.RowKit Go.Proofs.YtibjiigiaebepaaW.PrintWords Go.Proofs.YtibjiigiaebepaaW.PrintLast Go.Proofs.YtibjiigiaebepaaW.PrintMore
set_option linter.unusedVariables false
set_option linter.unusedSimpArgs false
def idxOf {α : Type} (p : α → Bool) (l : List α) : Int := match l.findIdx? p with
  | some i => i
  | none => -1
theorem idxOf_hit {α : Type} {p : α → Bool} {l : List α} {j : Nat} {x : α} (hj : l[j]? = some x) (hx : p x = true) (h : ∀ i y, i < j → l[i]? = some y → p y = false) : idxOf p l = (j : Int) := by
  have e : l.findIdx? p = some j := by
    rw [List.findIdx?_eq_some_iff_getElem]
    obtain ⟨hlt, he⟩ := List.getElem?_eq_some_iff.1 hj
    refine ⟨hlt, by rw [he]; exact hx, fun i hi => ?_⟩
    have := h i l[i] hi (List.getElem?_eq_getElem _)
    simp [this]
  unfold idxOf; rw [e]
theorem idxOf_miss {α : Type} {p : α → Bool} {l : List α} (h : ∀ i y, i < l.length → l[i]? = some y → p y = false) : idxOf p l = -1 := by
  have e : l.findIdx? p = none := by
    rw [List.findIdx?_eq_none_iff]
    intro x hx
    obtain ⟨i, hi, rfl⟩ := List.mem_iff_getElem.1 hx
    exact h i _ hi (List.getElem?_eq_getElem hi)
  unfold idxOf; rw [e]
theorem idxOf_any {α : Type} (p : α → Bool) (l : List α) : decide (0 ≤ idxOf p l) = l.any p := by
  unfold idxOf
  cases e : l.findIdx? p with
  | none =>
    rw [List.findIdx?_eq_none_iff] at e
    have : l.any p = false := by rw [List.any_eq_false]; intro x hx; simp [e x hx]
    rw [this]; rfl
  | some i =>
    rw [List.findIdx?_eq_some_iff_getElem] at e
    obtain ⟨h1, h2, _⟩ := e
    have : l.any p = true := by rw [List.any_eq_true]; exact ⟨_, List.getElem_mem h1, h2⟩
    rw [this]; simp
theorem box_drewN {w : World} {a : Addr} {v : Value} (n : Nat) (h : w.cell? a = some v) : (w.drewN n).cell? a = some v := h
theorem box_drew {w : World} {a : Addr} {v : Value} (h : w.cell? a = some v) : w.drew.cell? a = some v := h
theorem box_at (w : World) (n : Nat) (v : Value) (t : TypeId) (h : n = w.heap.size) : (w.alloc (.cells #[v] t)).cell? ⟨n, 0, none⟩ = some v := by subst h; simp
theorem box_past {w : World} {a : Addr} {v : Value} (o : Obj) (h : w.cell? a = some v) : (w.alloc o).cell? a = some v := Lib.cell?_alloc_some _ h
/-- What is asked of a predicate: it may lay blocks of its own. -/
def PredK (P : Program) {α : Type} (kd : Kd α) (g : Nat) (lb : Array Value) (p : α → Bool) (w : World) : Prop :=
  ∀ (W : World) (x : α) (cs : List Value), Below w.heap.size w W → kd.K W x cs → Calls P g (#[.agg cs.toArray] ++ lb) W fun e w' => e = .returned (.bool (p x)) ∧ Below w.heap.size w w'
set_option maxHeartbeats 2000000 in
theorem idxFunc_calls {P : Program} {ρ : Go.Shelf.Ren} {α : Type} (L : SlLaysH0.n6 P ρ) (kd : Kd α) (aE : ∀ w, (isAgg (ρ.t 23)).run P w = .ok true w) (zE : ∀ w, (Go.sizeOf (ρ.t 23)).run P w = .ok kd.sz w)
    (p : α → Bool) (g : Nat) (lb : Array Value) (eg : ∀ args w, (callFunc g args).run P w = .ok (.enter g args) w) (A0 : Option Addr) (c0 : Nat) (l0 : List α) (w : World) (hp : PredK P kd g lb p w) (hr0 : Kd.C kd w A0 l0.length l0) :
    Calls P (ρ.f 6) #[.slice A0 l0.length c0, .func (.func g) #[] lb] w fun e w' => e = .returned (.int .i64 (idxOf p l0)) ∧ Below w.heap.size w w' := by
  have mixed := L.mixed; have t0 := L.t0; have a0 := L.a0; have z0 := L.z0; have v0 := L.v0; have t3 := L.t3; have a3 := L.a3; have z3 := L.z3; have v3 := L.v3; have t4 := L.t4; have a4 := L.a4; have z4 := L.z4; have v4 := L.v4; have t22 := L.t22; have a22 := L.a22; have z22 := L.z22; have v22 := L.v22; have t25 := L.t25; have a25 := L.a25; have z25 := L.z25; have v25 := L.v25
  have hbig : l0.length ≤ 9223372036854775807 := hr0.2.1
  have hrow : ∀ (W : World), Below w.heap.size w W → ∀ j, j < l0.length → ∃ (ad : Addr) (cs : List Value) (x : α), A0 = some ad ∧ l0[j]? = some x ∧ kd.K W x cs ∧ Sem.run P (loadCellsFrom (ad.add (j * kd.sz)) 0 kd.sz #[]) W = .ok cs.toArray W := fun W hW j hj => by
    obtain ⟨ad, e, hc⟩ := (Kd.C_below hr0 hW).2.2 (by omega)
    obtain ⟨c, hs, hk, hcell⟩ := hc j _ (List.getElem?_eq_getElem hj)
    exact ⟨ad, c, _, e, List.getElem?_eq_getElem hj, hk, run_loadCellsFrom_list P _ _ c kd.sz hs (fun i v hi => by rw [Addr.add_add]; exact hcell i v hi)⟩
  clear hr0
  generalize hN : l0.length = n at *
  obtain ⟨_, _, FG⟩ := L.f6
  go_enter FG, SlBodyH.n6_ntmps ρ
  go_wp2
  go_loopg [5, 8] n (fun gg _ s8 wr => ∃ kk : Nat, kk ≤ n ∧ n - kk ≤ gg ∧ s8 = .int .i64 kk ∧ Aside (Below w.heap.size w wr) ∧ Aside (∀ i y, i < kk → l0[i]? = some y → p y = false))
  case atStart => exact ⟨0, Nat.zero_le _, by omega, rfl, Below.refl _ w, fun i _ hi => absurd hi (Nat.not_lt_zero _)⟩
  case round =>
    obtain ⟨kk, hkk, hg, rfl, BW, A⟩ := hrel
    by_cases hlt : kk < n
    · have hltz : (kk : Int) < (n : Int) := by omega
      obtain ⟨ad, cs, y, rfl, hx, hK, l2⟩ := hrow wr BW.out kk hlt
      have hcall := hp wr y cs BW.out hK
      clear hrow hp hK
      generalize cs.toArray = ca at l2 hcall
      have B : Aside (l0[kk]? = some y) := hx
      clear hx
      cases hq : p y with
      | true =>
        rw [hq] at hcall
        go_wp2_with (go_at_fn g; refine hcall.mono ?_; rintro e w' ⟨rfl, hb'⟩)
        go_ret
        refine ⟨?_, hb'⟩
        rw [idxOf_hit B.out hq A.out]; rfl
      | false =>
        rw [hq] at hcall
        go_wp2_with (go_at_fn g; refine hcall.mono ?_; rintro e w' ⟨rfl, hb'⟩)
        go_roundg (n - (kk + 1))
        case measure => omega
        case rel =>
          refine ⟨kk + 1, by omega, by omega, by go_num, hb', (show Aside _ from fun i z hi hz => ?_)⟩
          by_cases e : i = kk
          · subst e
            have := B.out
            rw [hz] at this
            cases this
            exact hq
          · exact A.out i z (by omega) hz
    · have hltz : ¬ (kk : Int) < (n : Int) := by omega
      have : kk = n := by omega
      subst this
      go_wp2
      go_ret
      refine ⟨?_, BW.out⟩
      rw [idxOf_miss (fun i z hi hz => A.out i z (by omega) hz)]; rfl
set_option maxHeartbeats 2000000 in
theorem containsFunc_calls {P : Program} {ρ : Go.Shelf.Ren} {α : Type} (L : SlLaysH0.n8 P ρ) (kd : Kd α) (aE : ∀ w, (isAgg (ρ.t 23)).run P w = .ok true w) (zE : ∀ w, (Go.sizeOf (ρ.t 23)).run P w = .ok kd.sz w)
    (p : α → Bool) (g : Nat) (lb : Array Value) (eg : ∀ args w, (callFunc g args).run P w = .ok (.enter g args) w) (A0 : Option Addr) (c0 : Nat) (l0 : List α) (w : World) (hp : PredK P kd g lb p w) (hr0 : Kd.C kd w A0 l0.length l0) :
    Calls P (ρ.f 8) #[.slice A0 l0.length c0, .func (.func g) #[] lb] w fun e w' => e = .returned (.bool (l0.any p)) ∧ Below w.heap.size w w' := by
  rw [← idxOf_any]
  have mixed := L.mixed; have t0 := L.t0; have a0 := L.a0; have z0 := L.z0; have v0 := L.v0; have t3 := L.t3; have a3 := L.a3; have z3 := L.z3; have v3 := L.v3; have t4 := L.t4; have a4 := L.a4; have z4 := L.z4; have v4 := L.v4; have t22 := L.t22; have a22 := L.a22; have z22 := L.z22; have v22 := L.v22; have t25 := L.t25; have a25 := L.a25; have z25 := L.z25; have v25 := L.v25
  have e6 : ∀ args w, (callFunc (ρ.f 6) args).run P w = .ok (.enter (ρ.f 6) args) w := L.f6.enters rfl
  have hcon := idxFunc_calls { L with } kd aE zE p g lb eg A0 c0 l0
  obtain ⟨_, _, FG⟩ := L.f8
  go_enter FG, SlBodyH.n8_ntmps ρ
  generalize idxOf p l0 = r at hcon ⊢
  go_wp2_with (go_at_fn (ρ.f 6); refine (hcon _ hp hr0).mono ?_; rintro e w' ⟨rfl, hb'⟩)
  go_ret
  exact ⟨rfl, hb'⟩
end Go.Proofs.Ytibjiigiaebepaa.XF
