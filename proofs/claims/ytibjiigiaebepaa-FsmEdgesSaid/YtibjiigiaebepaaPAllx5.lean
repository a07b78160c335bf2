/- Printed by the program wip/xprint of this session, on the print of the kit: contracts of functions that the claim reaches. Lean checks each. -/
import Derived.Test.YtibjiigiaebepaaPAllx0
import Derived.Test.YtibjiigiaebepaaPAllx3
import Derived.Test.YtibjiigiaebepaaPAllx4
namespace Go.Proofs.Ytibjiigiaebepaa.PAll
open Go.RowKit Go.Proofs.YtibjiigiaebepaaW.PrintWords Go.Proofs.YtibjiigiaebepaaW.PrintLast Go.Proofs.YtibjiigiaebepaaW.PrintMore
attribute [local go_sem] max2_int min2_int max_two min_two max_three min_three max_four min_four   -- for this text's walks alone
set_option linter.unusedVariables false
set_option linter.unusedSimpArgs false

/-! ### fsm_Name: function 17 -/
def fsm_Name.f (a0 : Int) : Option (ByteArray) := (some (([(⟨#[73, 100, 108, 101]⟩ : ByteArray), (⟨#[68, 111, 119, 110, 108, 111, 97, 100, 105, 110, 103]⟩ : ByteArray), (⟨#[68, 111, 119, 110, 108, 111, 97, 100, 101, 100]⟩ : ByteArray), (⟨#[85, 112, 100, 97, 116, 105, 110, 103]⟩ : ByteArray)] : List ByteArray) : List ByteArray)).bind fun y151 => (if a0 < 0 then (some (⟨#[]⟩ : ByteArray)) else (if a0 ≥ (y151.length : Int) then (some (⟨#[]⟩ : ByteArray)) else (if 0 ≤ a0 then (if a0 < (y151.length : Int) then (some (rdOf ByteArray.empty y151 a0)) else (none)) else (none))))
set_option maxHeartbeats 8000000 in
set_option maxRecDepth 100000 in
theorem fsm_Name.calls (a0 : Int) (r : ByteArray) (w : World) (h : fsm_Name.f a0 = some r) :
    Calls Try.prog 17 #[.int .i64 a0] w fun e w' => e = .returned (.string r) ∧ Below w.heap.size w w' := by
  have HB := Aside0.mk (Below.refl w.heap.size w)
  have H : ((some (([(⟨#[73, 100, 108, 101]⟩ : ByteArray), (⟨#[68, 111, 119, 110, 108, 111, 97, 100, 105, 110, 103]⟩ : ByteArray), (⟨#[68, 111, 119, 110, 108, 111, 97, 100, 101, 100]⟩ : ByteArray), (⟨#[85, 112, 100, 97, 116, 105, 110, 103]⟩ : ByteArray)] : List ByteArray) : List ByteArray)).bind fun y151 => (if a0 < 0 then (some (⟨#[]⟩ : ByteArray)) else (if a0 ≥ (y151.length : Int) then (some (⟨#[]⟩ : ByteArray)) else (if 0 ≤ a0 then (if a0 < (y151.length : Int) then (some (rdOf ByteArray.empty y151 a0)) else (none)) else (none))))) = some r := h
  clear h
  obtain ⟨y151, hy151⟩ : ∃ y_ : List ByteArray, y_ = (([(⟨#[73, 100, 108, 101]⟩ : ByteArray), (⟨#[68, 111, 119, 110, 108, 111, 97, 100, 105, 110, 103]⟩ : ByteArray), (⟨#[68, 111, 119, 110, 108, 111, 97, 100, 101, 100]⟩ : ByteArray), (⟨#[85, 112, 100, 97, 116, 105, 110, 103]⟩ : ByteArray)] : List ByteArray)) := ⟨_, rfl⟩
  replace H : (if a0 < 0 then (some (⟨#[]⟩ : ByteArray)) else (if a0 ≥ (y151.length : Int) then (some (⟨#[]⟩ : ByteArray)) else (if 0 ≤ a0 then (if a0 < (y151.length : Int) then (some (rdOf ByteArray.empty y151 a0)) else (none)) else (none)))) = some r := by first | (rw [hy151]; with_reducible exact H) | (have H2_ := (Option.bind_some _ _).symm.trans H; rw [hy151]; with_reducible exact H2_) | (have H2_ := (Option.bind_some _ _).symm.trans H; with_reducible exact H2_) | with_reducible exact H | (rw [hy151]; exact H) | exact H
  have Ny151 := Aside0.mk hy151
  clear hy151
  by_cases c2 : a0 < 0
  · rw [if_pos c2] at H
    have c2b0 : decide (a0 < 0) = true := decide_eq_true c2
    clear c2
    obtain rfl := Option.some.inj H
    go_enter Try.func17, Try.ntmps17
    go_wp2_with (first | ((with_reducible refine gate_dst (N := 4) rfl ?_); (try (refine gate_guard (by rfl) ?_; dsimp only)); refine Kd.R_lit Kd.string _ 9 ?hg (N := 4) ?hd (xs := ([(⟨#[73, 100, 108, 101]⟩ : ByteArray), (⟨#[68, 111, 119, 110, 108, 111, 97, 100, 105, 110, 103]⟩ : ByteArray), (⟨#[68, 111, 119, 110, 108, 111, 97, 100, 101, 100]⟩ : ByteArray), (⟨#[85, 112, 100, 97, 116, 105, 110, 103]⟩ : ByteArray)] : List ByteArray)) (inner := [.string (⟨#[73, 100, 108, 101]⟩ : ByteArray), .string (⟨#[68, 111, 119, 110, 108, 111, 97, 100, 105, 110, 103]⟩ : ByteArray), .string (⟨#[68, 111, 119, 110, 108, 111, 97, 100, 101, 100]⟩ : ByteArray), .string (⟨#[85, 112, 100, 97, 116, 105, 110, 103]⟩ : ByteArray)]) (ok := fun _ => True) (okp := fun _ => True) ?hr ?hp (fun _ hk => hk) trivial (Below.refl _ _) (Nat.le_refl _) (by simp) ?_; (case hd => rfl); (case hg => rfl); (case hr => first | (go_simp; done) | (go_simp; rfl)); (case hp => exact (Reps.one (show Kd.M Kd.string _ _ _ (⟨#[73, 100, 108, 101]⟩ : ByteArray) [.string (⟨#[73, 100, 108, 101]⟩ : ByteArray)] from rfl) (Reps.one (show Kd.M Kd.string _ _ _ (⟨#[68, 111, 119, 110, 108, 111, 97, 100, 105, 110, 103]⟩ : ByteArray) [.string (⟨#[68, 111, 119, 110, 108, 111, 97, 100, 105, 110, 103]⟩ : ByteArray)] from rfl) (Reps.one (show Kd.M Kd.string _ _ _ (⟨#[68, 111, 119, 110, 108, 111, 97, 100, 101, 100]⟩ : ByteArray) [.string (⟨#[68, 111, 119, 110, 108, 111, 97, 100, 101, 100]⟩ : ByteArray)] from rfl) (Reps.one (show Kd.M Kd.string _ _ _ (⟨#[85, 112, 100, 97, 116, 105, 110, 103]⟩ : ByteArray) [.string (⟨#[85, 112, 100, 97, 116, 105, 110, 103]⟩ : ByteArray)] from rfl) (Reps.none _ _)))))); intro v152 w3 ho4 hb hg_ hnew_; clear hg_ hnew_; (first | rw [← Ny151.out] at ho4 | (simp only [Int.reduceToNat] at ho4; rw [← Ny151.out] at ho4)); have n0_ := Aside0.mk (Kd.R_lower ho4 (below_size (by repeat (first | (with_reducible first | exact HB.out | apply below_alloc | apply pw_below_drewN | apply below_drew1) | exact HB.out)))); have n1_ := Aside0.mk (below_step (by repeat (first | (with_reducible first | exact HB.out | apply below_alloc | apply pw_below_drewN | apply below_drew1) | exact HB.out)) hb); clear HB; have HO153 := n0_; have HB := n1_; clear n0_ n1_; clear hb ho4))
    go_ret
    exact ⟨by first | rfl | (simp [errW_none, errW_some] <;> rfl) | (simp [*, errW_none, errW_some] <;> rfl) | (simp [*, errW_none, errW_some]; exact (by intro l_; cases l_ <;> rfl : ∀ l_ : List UInt8, l_.isEmpty = !(l_ != [])) _), by repeat (first | (with_reducible first | exact HB.out | apply below_alloc | apply pw_below_drewN | apply below_drew1) | exact HB.out)⟩
  · rw [if_neg c2] at H
    have c2b0 : decide (a0 < 0) = false := decide_eq_false c2
    clear c2
    by_cases c5 : a0 ≥ (y151.length : Int)
    · rw [if_pos c5] at H
      have c5b0 : decide ((y151.length : Int) ≤ a0) = true := decide_eq_true c5
      clear c5
      obtain rfl := Option.some.inj H
      go_enter Try.func17, Try.ntmps17
      go_wp2_with (first | ((with_reducible refine gate_dst (N := 4) rfl ?_); (try (refine gate_guard (by rfl) ?_; dsimp only)); refine Kd.R_lit Kd.string _ 9 ?hg (N := 4) ?hd (xs := ([(⟨#[73, 100, 108, 101]⟩ : ByteArray), (⟨#[68, 111, 119, 110, 108, 111, 97, 100, 105, 110, 103]⟩ : ByteArray), (⟨#[68, 111, 119, 110, 108, 111, 97, 100, 101, 100]⟩ : ByteArray), (⟨#[85, 112, 100, 97, 116, 105, 110, 103]⟩ : ByteArray)] : List ByteArray)) (inner := [.string (⟨#[73, 100, 108, 101]⟩ : ByteArray), .string (⟨#[68, 111, 119, 110, 108, 111, 97, 100, 105, 110, 103]⟩ : ByteArray), .string (⟨#[68, 111, 119, 110, 108, 111, 97, 100, 101, 100]⟩ : ByteArray), .string (⟨#[85, 112, 100, 97, 116, 105, 110, 103]⟩ : ByteArray)]) (ok := fun _ => True) (okp := fun _ => True) ?hr ?hp (fun _ hk => hk) trivial (Below.refl _ _) (Nat.le_refl _) (by simp) ?_; (case hd => rfl); (case hg => rfl); (case hr => first | (go_simp; done) | (go_simp; rfl)); (case hp => exact (Reps.one (show Kd.M Kd.string _ _ _ (⟨#[73, 100, 108, 101]⟩ : ByteArray) [.string (⟨#[73, 100, 108, 101]⟩ : ByteArray)] from rfl) (Reps.one (show Kd.M Kd.string _ _ _ (⟨#[68, 111, 119, 110, 108, 111, 97, 100, 105, 110, 103]⟩ : ByteArray) [.string (⟨#[68, 111, 119, 110, 108, 111, 97, 100, 105, 110, 103]⟩ : ByteArray)] from rfl) (Reps.one (show Kd.M Kd.string _ _ _ (⟨#[68, 111, 119, 110, 108, 111, 97, 100, 101, 100]⟩ : ByteArray) [.string (⟨#[68, 111, 119, 110, 108, 111, 97, 100, 101, 100]⟩ : ByteArray)] from rfl) (Reps.one (show Kd.M Kd.string _ _ _ (⟨#[85, 112, 100, 97, 116, 105, 110, 103]⟩ : ByteArray) [.string (⟨#[85, 112, 100, 97, 116, 105, 110, 103]⟩ : ByteArray)] from rfl) (Reps.none _ _)))))); intro v152 w6 ho7 hb hg_ hnew_; clear hg_ hnew_; (first | rw [← Ny151.out] at ho7 | (simp only [Int.reduceToNat] at ho7; rw [← Ny151.out] at ho7)); have n0_ := Aside0.mk (Kd.R_lower ho7 (below_size (by repeat (first | (with_reducible first | exact HB.out | apply below_alloc | apply pw_below_drewN | apply below_drew1) | exact HB.out)))); have n1_ := Aside0.mk (below_step (by repeat (first | (with_reducible first | exact HB.out | apply below_alloc | apply pw_below_drewN | apply below_drew1) | exact HB.out)) hb); clear HB; have HO153 := n0_; have HB := n1_; clear n0_ n1_; clear hb ho7; obtain ⟨Ao8, co8, eo8⟩ := Kd.R_slice HO153.out; subst eo8))
      go_ret
      exact ⟨by first | rfl | (simp [errW_none, errW_some] <;> rfl) | (simp [*, errW_none, errW_some] <;> rfl) | (simp [*, errW_none, errW_some]; exact (by intro l_; cases l_ <;> rfl : ∀ l_ : List UInt8, l_.isEmpty = !(l_ != [])) _), by repeat (first | (with_reducible first | exact HB.out | apply below_alloc | apply pw_below_drewN | apply below_drew1) | exact HB.out)⟩
    · rw [if_neg c5] at H
      have c5b0 : decide ((y151.length : Int) ≤ a0) = false := decide_eq_false c5
      clear c5
      by_cases c9 : 0 ≤ a0
      · rw [if_pos c9] at H
        have c9b0 : decide (0 ≤ a0) = true := decide_eq_true c9
        clear c9
        by_cases c10 : a0 < (y151.length : Int)
        · rw [if_pos c10] at H
          have c10b0 : decide (a0 < (y151.length : Int)) = true := decide_eq_true c10
          clear c10
          obtain rfl := Option.some.inj H
          go_enter Try.func17, Try.ntmps17
          go_wp2_with (first | ((with_reducible refine gate_dst (N := 4) rfl ?_); (try (refine gate_guard (by rfl) ?_; dsimp only)); refine Kd.R_lit Kd.string _ 9 ?hg (N := 4) ?hd (xs := ([(⟨#[73, 100, 108, 101]⟩ : ByteArray), (⟨#[68, 111, 119, 110, 108, 111, 97, 100, 105, 110, 103]⟩ : ByteArray), (⟨#[68, 111, 119, 110, 108, 111, 97, 100, 101, 100]⟩ : ByteArray), (⟨#[85, 112, 100, 97, 116, 105, 110, 103]⟩ : ByteArray)] : List ByteArray)) (inner := [.string (⟨#[73, 100, 108, 101]⟩ : ByteArray), .string (⟨#[68, 111, 119, 110, 108, 111, 97, 100, 105, 110, 103]⟩ : ByteArray), .string (⟨#[68, 111, 119, 110, 108, 111, 97, 100, 101, 100]⟩ : ByteArray), .string (⟨#[85, 112, 100, 97, 116, 105, 110, 103]⟩ : ByteArray)]) (ok := fun _ => True) (okp := fun _ => True) ?hr ?hp (fun _ hk => hk) trivial (Below.refl _ _) (Nat.le_refl _) (by simp) ?_; (case hd => rfl); (case hg => rfl); (case hr => first | (go_simp; done) | (go_simp; rfl)); (case hp => exact (Reps.one (show Kd.M Kd.string _ _ _ (⟨#[73, 100, 108, 101]⟩ : ByteArray) [.string (⟨#[73, 100, 108, 101]⟩ : ByteArray)] from rfl) (Reps.one (show Kd.M Kd.string _ _ _ (⟨#[68, 111, 119, 110, 108, 111, 97, 100, 105, 110, 103]⟩ : ByteArray) [.string (⟨#[68, 111, 119, 110, 108, 111, 97, 100, 105, 110, 103]⟩ : ByteArray)] from rfl) (Reps.one (show Kd.M Kd.string _ _ _ (⟨#[68, 111, 119, 110, 108, 111, 97, 100, 101, 100]⟩ : ByteArray) [.string (⟨#[68, 111, 119, 110, 108, 111, 97, 100, 101, 100]⟩ : ByteArray)] from rfl) (Reps.one (show Kd.M Kd.string _ _ _ (⟨#[85, 112, 100, 97, 116, 105, 110, 103]⟩ : ByteArray) [.string (⟨#[85, 112, 100, 97, 116, 105, 110, 103]⟩ : ByteArray)] from rfl) (Reps.none _ _)))))); intro v152 w11 ho12 hb hg_ hnew_; clear hg_ hnew_; (first | rw [← Ny151.out] at ho12 | (simp only [Int.reduceToNat] at ho12; rw [← Ny151.out] at ho12)); have n0_ := Aside0.mk (Kd.R_lower ho12 (below_size (by repeat (first | (with_reducible first | exact HB.out | apply below_alloc | apply pw_below_drewN | apply below_drew1) | exact HB.out)))); have n1_ := Aside0.mk (below_step (by repeat (first | (with_reducible first | exact HB.out | apply below_alloc | apply pw_below_drewN | apply below_drew1) | exact HB.out)) hb); clear HB; have HO153 := n0_; have HB := n1_; clear n0_ n1_; clear hb ho12; obtain ⟨Ao13, co13, eo13⟩ := Kd.R_slice HO153.out; subst eo13; have p154 : 0 ≤ (a0 : Int) := of_decide_eq_true (by first | (with_reducible assumption) | assumption); have q154 : a0 < (y151.length : Int) := of_decide_eq_true (by first | (with_reducible assumption) | assumption); obtain ⟨ad154, e154, hx154_0⟩ := Kd.at_string (Kd.R_reads' HO153.out).2.2 a0 p154 q154; cases e154; replace p154 := eq_true p154; replace q154 := eq_true q154))
          go_ret
          exact ⟨by first | rfl | (simp [errW_none, errW_some] <;> rfl) | (simp [*, errW_none, errW_some] <;> rfl) | (simp [*, errW_none, errW_some]; exact (by intro l_; cases l_ <;> rfl : ∀ l_ : List UInt8, l_.isEmpty = !(l_ != [])) _), by repeat (first | (with_reducible first | exact HB.out | apply below_alloc | apply pw_below_drewN | apply below_drew1) | exact HB.out)⟩
        · rw [if_neg c10] at H
          exact absurd H (by simp)
      · rw [if_neg c9] at H
        exact absurd H (by simp)

/-! ### outpostlaw22_alive: function 7 -/
def outpostlaw22_alive.f (k : Nat)  : Option (Bool) := (fsm_Next.f k 2 5 0).bind fun bt155 => ((fsm_Next.f k 2 1 0).bind fun bt161 => (if bt155.2.2.2.2 = true then (if bt155.2.2.1 = 3 then (if bt155.2.2.2.1 = 0 then (if bt155.2.1 = 2 then (if bt161.2.2.2.2 = true then (none) else ((fsm_Right.f k 0 9).bind fun t167 => (if t167 = true then ((fsm_Right.f k 1 1).bind fun t168 => (if t168 = true then (none) else ((fsm_May.f k 1 0 2 0).bind fun t169 => (if t169 = true then ((fsm_May.f k 0 0 2 0).bind fun t170 => (if t170 = true then (none) else ((fsm_Path.f k 0 0 3 0).bind fun t171 => (if t171 = true then ((fsm_Name.f 1).bind fun t172 => (if t172.toList = ([68, 111, 119, 110, 108, 111, 97, 100, 105, 110, 103] : List UInt8) then ((fsm_Name.f 4).bind fun t173 => (if t173.toList = ([] : List UInt8) then ((fsm_Edges.f k).bind fun t174 => (if (t174.length : Int) = 17 then (some true) else (none))) else (none))) else (none))) else (none))))) else (none))))) else (none)))) else (none)) else (none)) else (none)) else (none)))
theorem outpostlaw22_alive.mono : ∀ k, LeO (outpostlaw22_alive.f k ) (outpostlaw22_alive.f (k + 1) ) := by
  intro  k
  unfold outpostlaw22_alive.f
  repeat' first
      | (with_reducible exact fsm_Edges.mono _)
      | (with_reducible exact fsm_May.mono _ _ _ _ _)
      | (with_reducible exact fsm_Next.mono _ _ _ _)
      | (with_reducible exact fsm_Path.mono _ _ _ _ _)
      | (with_reducible exact fsm_Right.mono _ _ _)
      | (with_reducible exact LeO.refl _)
      | (with_reducible exact LeO.none _)
      | (with_reducible refine LeO.ite ?_ ?_)
      | (with_reducible refine LeO.bind ?_ (fun _ => ?_))
      | exact fsm_Edges.mono _
      | exact fsm_May.mono _ _ _ _ _
      | exact fsm_Next.mono _ _ _ _
      | exact fsm_Path.mono _ _ _ _ _
      | exact fsm_Right.mono _ _ _
      | exact LeO.none _
      | refine LeO.ite ?_ ?_
      | refine LeO.bind ?_ (fun _ => ?_)
set_option maxHeartbeats 8000000 in
set_option maxRecDepth 100000 in
theorem outpostlaw22_alive.calls (k : Nat)  (r : Bool) (w : World) (h : outpostlaw22_alive.f k  = some r) :
    Calls Try.prog 7 #[] w fun e w' => e = .returned (.bool r) ∧ Below w.heap.size w w' := by
  have hu24 := Try.underlying24
  have HB := Aside0.mk (Below.refl w.heap.size w)
  have H : ((fsm_Next.f k 2 5 0).bind fun bt155 => ((fsm_Next.f k 2 1 0).bind fun bt161 => (if bt155.2.2.2.2 = true then (if bt155.2.2.1 = 3 then (if bt155.2.2.2.1 = 0 then (if bt155.2.1 = 2 then (if bt161.2.2.2.2 = true then (none) else ((fsm_Right.f k 0 9).bind fun t167 => (if t167 = true then ((fsm_Right.f k 1 1).bind fun t168 => (if t168 = true then (none) else ((fsm_May.f k 1 0 2 0).bind fun t169 => (if t169 = true then ((fsm_May.f k 0 0 2 0).bind fun t170 => (if t170 = true then (none) else ((fsm_Path.f k 0 0 3 0).bind fun t171 => (if t171 = true then ((fsm_Name.f 1).bind fun t172 => (if t172.toList = ([68, 111, 119, 110, 108, 111, 97, 100, 105, 110, 103] : List UInt8) then ((fsm_Name.f 4).bind fun t173 => (if t173.toList = ([] : List UInt8) then ((fsm_Edges.f k).bind fun t174 => (if (t174.length : Int) = 17 then (some true) else (none))) else (none))) else (none))) else (none))))) else (none))))) else (none)))) else (none)) else (none)) else (none)) else (none)))) = some r := h
  clear h
  replace H := Option.bind_eq_some_iff.mp H
  obtain ⟨⟨t155, t156, t157, t158, t159⟩, A10, H⟩ := H
  replace H : ((fsm_Next.f k 2 1 0).bind fun bt161 => (if t159 = true then (if t157 = 3 then (if t158 = 0 then (if t156 = 2 then (if bt161.2.2.2.2 = true then (none) else ((fsm_Right.f k 0 9).bind fun t167 => (if t167 = true then ((fsm_Right.f k 1 1).bind fun t168 => (if t168 = true then (none) else ((fsm_May.f k 1 0 2 0).bind fun t169 => (if t169 = true then ((fsm_May.f k 0 0 2 0).bind fun t170 => (if t170 = true then (none) else ((fsm_Path.f k 0 0 3 0).bind fun t171 => (if t171 = true then ((fsm_Name.f 1).bind fun t172 => (if t172.toList = ([68, 111, 119, 110, 108, 111, 97, 100, 105, 110, 103] : List UInt8) then ((fsm_Name.f 4).bind fun t173 => (if t173.toList = ([] : List UInt8) then ((fsm_Edges.f k).bind fun t174 => (if (t174.length : Int) = 17 then (some true) else (none))) else (none))) else (none))) else (none))))) else (none))))) else (none)))) else (none)) else (none)) else (none)) else (none))) = some r := H
  have A1 := Aside0.mk A10
  clear A10
  replace H := Option.bind_eq_some_iff.mp H
  obtain ⟨⟨t161, t162, t163, t164, t165⟩, A20, H⟩ := H
  replace H : (if t159 = true then (if t157 = 3 then (if t158 = 0 then (if t156 = 2 then (if t165 = true then (none) else ((fsm_Right.f k 0 9).bind fun t167 => (if t167 = true then ((fsm_Right.f k 1 1).bind fun t168 => (if t168 = true then (none) else ((fsm_May.f k 1 0 2 0).bind fun t169 => (if t169 = true then ((fsm_May.f k 0 0 2 0).bind fun t170 => (if t170 = true then (none) else ((fsm_Path.f k 0 0 3 0).bind fun t171 => (if t171 = true then ((fsm_Name.f 1).bind fun t172 => (if t172.toList = ([68, 111, 119, 110, 108, 111, 97, 100, 105, 110, 103] : List UInt8) then ((fsm_Name.f 4).bind fun t173 => (if t173.toList = ([] : List UInt8) then ((fsm_Edges.f k).bind fun t174 => (if (t174.length : Int) = 17 then (some true) else (none))) else (none))) else (none))) else (none))))) else (none))))) else (none)))) else (none)) else (none)) else (none)) else (none)) = some r := H
  have A2 := Aside0.mk A20
  clear A20
  by_cases c3 : t159 = true
  · subst c3
    have H1 : (if t157 = 3 then (if t158 = 0 then (if t156 = 2 then (if t165 = true then (none) else ((fsm_Right.f k 0 9).bind fun t167 => (if t167 = true then ((fsm_Right.f k 1 1).bind fun t168 => (if t168 = true then (none) else ((fsm_May.f k 1 0 2 0).bind fun t169 => (if t169 = true then ((fsm_May.f k 0 0 2 0).bind fun t170 => (if t170 = true then (none) else ((fsm_Path.f k 0 0 3 0).bind fun t171 => (if t171 = true then ((fsm_Name.f 1).bind fun t172 => (if t172.toList = ([68, 111, 119, 110, 108, 111, 97, 100, 105, 110, 103] : List UInt8) then ((fsm_Name.f 4).bind fun t173 => (if t173.toList = ([] : List UInt8) then ((fsm_Edges.f k).bind fun t174 => (if (t174.length : Int) = 17 then (some true) else (none))) else (none))) else (none))) else (none))))) else (none))))) else (none)))) else (none)) else (none)) else (none)) = some r := by rw [if_pos rfl] at H; exact H
    clear H
    have H := H1
    clear H1
    by_cases c4 : t157 = 3
    · rw [if_pos c4] at H
      have c4b0 : (t157 == 3) = true := beq_iff_eq.mpr c4
      have c4b1 : (t157 != 3) = false := bne_eq_false_iff_eq.mpr c4
      clear c4
      by_cases c5 : t158 = 0
      · rw [if_pos c5] at H
        have c5b0 : (t158 == 0) = true := beq_iff_eq.mpr c5
        have c5b1 : (t158 != 0) = false := bne_eq_false_iff_eq.mpr c5
        clear c5
        by_cases c6 : t156 = 2
        · rw [if_pos c6] at H
          have c6b0 : (t156 == 2) = true := beq_iff_eq.mpr c6
          have c6b1 : (t156 != 2) = false := bne_eq_false_iff_eq.mpr c6
          clear c6
          by_cases c7 : t165 = true
          · subst c7
            have H1 : (none) = some r := by rw [if_pos rfl] at H; exact H
            clear H
            have H := H1
            clear H1
            exact absurd H (by simp)
          · replace c7 := Bool.eq_false_iff.mpr c7
            subst c7
            have H1 : ((fsm_Right.f k 0 9).bind fun t167 => (if t167 = true then ((fsm_Right.f k 1 1).bind fun t168 => (if t168 = true then (none) else ((fsm_May.f k 1 0 2 0).bind fun t169 => (if t169 = true then ((fsm_May.f k 0 0 2 0).bind fun t170 => (if t170 = true then (none) else ((fsm_Path.f k 0 0 3 0).bind fun t171 => (if t171 = true then ((fsm_Name.f 1).bind fun t172 => (if t172.toList = ([68, 111, 119, 110, 108, 111, 97, 100, 105, 110, 103] : List UInt8) then ((fsm_Name.f 4).bind fun t173 => (if t173.toList = ([] : List UInt8) then ((fsm_Edges.f k).bind fun t174 => (if (t174.length : Int) = 17 then (some true) else (none))) else (none))) else (none))) else (none))))) else (none))))) else (none))) = some r := by rw [if_neg (show ¬ (false = true) by decide)] at H; exact H
            clear H
            have H := H1
            clear H1
            replace H := Option.bind_eq_some_iff.mp H
            obtain ⟨t167, A80, H⟩ := H
            replace H : (if t167 = true then ((fsm_Right.f k 1 1).bind fun t168 => (if t168 = true then (none) else ((fsm_May.f k 1 0 2 0).bind fun t169 => (if t169 = true then ((fsm_May.f k 0 0 2 0).bind fun t170 => (if t170 = true then (none) else ((fsm_Path.f k 0 0 3 0).bind fun t171 => (if t171 = true then ((fsm_Name.f 1).bind fun t172 => (if t172.toList = ([68, 111, 119, 110, 108, 111, 97, 100, 105, 110, 103] : List UInt8) then ((fsm_Name.f 4).bind fun t173 => (if t173.toList = ([] : List UInt8) then ((fsm_Edges.f k).bind fun t174 => (if (t174.length : Int) = 17 then (some true) else (none))) else (none))) else (none))) else (none))))) else (none))))) else (none)) = some r := H
            have A8 := Aside0.mk A80
            clear A80
            by_cases c9 : t167 = true
            · subst c9
              have H1 : ((fsm_Right.f k 1 1).bind fun t168 => (if t168 = true then (none) else ((fsm_May.f k 1 0 2 0).bind fun t169 => (if t169 = true then ((fsm_May.f k 0 0 2 0).bind fun t170 => (if t170 = true then (none) else ((fsm_Path.f k 0 0 3 0).bind fun t171 => (if t171 = true then ((fsm_Name.f 1).bind fun t172 => (if t172.toList = ([68, 111, 119, 110, 108, 111, 97, 100, 105, 110, 103] : List UInt8) then ((fsm_Name.f 4).bind fun t173 => (if t173.toList = ([] : List UInt8) then ((fsm_Edges.f k).bind fun t174 => (if (t174.length : Int) = 17 then (some true) else (none))) else (none))) else (none))) else (none))))) else (none))))) = some r := by rw [if_pos rfl] at H; exact H
              clear H
              have H := H1
              clear H1
              replace H := Option.bind_eq_some_iff.mp H
              obtain ⟨t168, A100, H⟩ := H
              replace H : (if t168 = true then (none) else ((fsm_May.f k 1 0 2 0).bind fun t169 => (if t169 = true then ((fsm_May.f k 0 0 2 0).bind fun t170 => (if t170 = true then (none) else ((fsm_Path.f k 0 0 3 0).bind fun t171 => (if t171 = true then ((fsm_Name.f 1).bind fun t172 => (if t172.toList = ([68, 111, 119, 110, 108, 111, 97, 100, 105, 110, 103] : List UInt8) then ((fsm_Name.f 4).bind fun t173 => (if t173.toList = ([] : List UInt8) then ((fsm_Edges.f k).bind fun t174 => (if (t174.length : Int) = 17 then (some true) else (none))) else (none))) else (none))) else (none))))) else (none)))) = some r := H
              have A10 := Aside0.mk A100
              clear A100
              by_cases c11 : t168 = true
              · subst c11
                have H1 : (none) = some r := by rw [if_pos rfl] at H; exact H
                clear H
                have H := H1
                clear H1
                exact absurd H (by simp)
              · replace c11 := Bool.eq_false_iff.mpr c11
                subst c11
                have H1 : ((fsm_May.f k 1 0 2 0).bind fun t169 => (if t169 = true then ((fsm_May.f k 0 0 2 0).bind fun t170 => (if t170 = true then (none) else ((fsm_Path.f k 0 0 3 0).bind fun t171 => (if t171 = true then ((fsm_Name.f 1).bind fun t172 => (if t172.toList = ([68, 111, 119, 110, 108, 111, 97, 100, 105, 110, 103] : List UInt8) then ((fsm_Name.f 4).bind fun t173 => (if t173.toList = ([] : List UInt8) then ((fsm_Edges.f k).bind fun t174 => (if (t174.length : Int) = 17 then (some true) else (none))) else (none))) else (none))) else (none))))) else (none))) = some r := by rw [if_neg (show ¬ (false = true) by decide)] at H; exact H
                clear H
                have H := H1
                clear H1
                replace H := Option.bind_eq_some_iff.mp H
                obtain ⟨t169, A120, H⟩ := H
                replace H : (if t169 = true then ((fsm_May.f k 0 0 2 0).bind fun t170 => (if t170 = true then (none) else ((fsm_Path.f k 0 0 3 0).bind fun t171 => (if t171 = true then ((fsm_Name.f 1).bind fun t172 => (if t172.toList = ([68, 111, 119, 110, 108, 111, 97, 100, 105, 110, 103] : List UInt8) then ((fsm_Name.f 4).bind fun t173 => (if t173.toList = ([] : List UInt8) then ((fsm_Edges.f k).bind fun t174 => (if (t174.length : Int) = 17 then (some true) else (none))) else (none))) else (none))) else (none))))) else (none)) = some r := H
                have A12 := Aside0.mk A120
                clear A120
                by_cases c13 : t169 = true
                · subst c13
                  have H1 : ((fsm_May.f k 0 0 2 0).bind fun t170 => (if t170 = true then (none) else ((fsm_Path.f k 0 0 3 0).bind fun t171 => (if t171 = true then ((fsm_Name.f 1).bind fun t172 => (if t172.toList = ([68, 111, 119, 110, 108, 111, 97, 100, 105, 110, 103] : List UInt8) then ((fsm_Name.f 4).bind fun t173 => (if t173.toList = ([] : List UInt8) then ((fsm_Edges.f k).bind fun t174 => (if (t174.length : Int) = 17 then (some true) else (none))) else (none))) else (none))) else (none))))) = some r := by rw [if_pos rfl] at H; exact H
                  clear H
                  have H := H1
                  clear H1
                  replace H := Option.bind_eq_some_iff.mp H
                  obtain ⟨t170, A140, H⟩ := H
                  replace H : (if t170 = true then (none) else ((fsm_Path.f k 0 0 3 0).bind fun t171 => (if t171 = true then ((fsm_Name.f 1).bind fun t172 => (if t172.toList = ([68, 111, 119, 110, 108, 111, 97, 100, 105, 110, 103] : List UInt8) then ((fsm_Name.f 4).bind fun t173 => (if t173.toList = ([] : List UInt8) then ((fsm_Edges.f k).bind fun t174 => (if (t174.length : Int) = 17 then (some true) else (none))) else (none))) else (none))) else (none)))) = some r := H
                  have A14 := Aside0.mk A140
                  clear A140
                  by_cases c15 : t170 = true
                  · subst c15
                    have H1 : (none) = some r := by rw [if_pos rfl] at H; exact H
                    clear H
                    have H := H1
                    clear H1
                    exact absurd H (by simp)
                  · replace c15 := Bool.eq_false_iff.mpr c15
                    subst c15
                    have H1 : ((fsm_Path.f k 0 0 3 0).bind fun t171 => (if t171 = true then ((fsm_Name.f 1).bind fun t172 => (if t172.toList = ([68, 111, 119, 110, 108, 111, 97, 100, 105, 110, 103] : List UInt8) then ((fsm_Name.f 4).bind fun t173 => (if t173.toList = ([] : List UInt8) then ((fsm_Edges.f k).bind fun t174 => (if (t174.length : Int) = 17 then (some true) else (none))) else (none))) else (none))) else (none))) = some r := by rw [if_neg (show ¬ (false = true) by decide)] at H; exact H
                    clear H
                    have H := H1
                    clear H1
                    replace H := Option.bind_eq_some_iff.mp H
                    obtain ⟨t171, A160, H⟩ := H
                    replace H : (if t171 = true then ((fsm_Name.f 1).bind fun t172 => (if t172.toList = ([68, 111, 119, 110, 108, 111, 97, 100, 105, 110, 103] : List UInt8) then ((fsm_Name.f 4).bind fun t173 => (if t173.toList = ([] : List UInt8) then ((fsm_Edges.f k).bind fun t174 => (if (t174.length : Int) = 17 then (some true) else (none))) else (none))) else (none))) else (none)) = some r := H
                    have A16 := Aside0.mk A160
                    clear A160
                    by_cases c17 : t171 = true
                    · subst c17
                      have H1 : ((fsm_Name.f 1).bind fun t172 => (if t172.toList = ([68, 111, 119, 110, 108, 111, 97, 100, 105, 110, 103] : List UInt8) then ((fsm_Name.f 4).bind fun t173 => (if t173.toList = ([] : List UInt8) then ((fsm_Edges.f k).bind fun t174 => (if (t174.length : Int) = 17 then (some true) else (none))) else (none))) else (none))) = some r := by rw [if_pos rfl] at H; exact H
                      clear H
                      have H := H1
                      clear H1
                      replace H := Option.bind_eq_some_iff.mp H
                      obtain ⟨t172, A180, H⟩ := H
                      replace H : (if t172.toList = ([68, 111, 119, 110, 108, 111, 97, 100, 105, 110, 103] : List UInt8) then ((fsm_Name.f 4).bind fun t173 => (if t173.toList = ([] : List UInt8) then ((fsm_Edges.f k).bind fun t174 => (if (t174.length : Int) = 17 then (some true) else (none))) else (none))) else (none)) = some r := H
                      have A18 := Aside0.mk A180
                      clear A180
                      by_cases c19 : t172.toList = ([68, 111, 119, 110, 108, 111, 97, 100, 105, 110, 103] : List UInt8)
                      · rw [if_pos c19] at H
                        have c19b0 : (t172.toList == ([68, 111, 119, 110, 108, 111, 97, 100, 105, 110, 103] : List UInt8)) = true := beq_iff_eq.mpr c19
                        have c19b1 : (t172.toList != ([68, 111, 119, 110, 108, 111, 97, 100, 105, 110, 103] : List UInt8)) = false := bne_eq_false_iff_eq.mpr c19
                        clear c19
                        replace H := Option.bind_eq_some_iff.mp H
                        obtain ⟨t173, A200, H⟩ := H
                        replace H : (if t173.toList = ([] : List UInt8) then ((fsm_Edges.f k).bind fun t174 => (if (t174.length : Int) = 17 then (some true) else (none))) else (none)) = some r := H
                        have A20 := Aside0.mk A200
                        clear A200
                        by_cases c21 : t173.toList = ([] : List UInt8)
                        · rw [if_pos c21] at H
                          have c21b0 : (t173.toList == ([] : List UInt8)) = true := beq_iff_eq.mpr c21
                          have c21b1 : (t173.toList != ([] : List UInt8)) = false := bne_eq_false_iff_eq.mpr c21
                          clear c21
                          replace H := Option.bind_eq_some_iff.mp H
                          obtain ⟨t174, A220, H⟩ := H
                          replace H : (if (t174.length : Int) = 17 then (some true) else (none)) = some r := H
                          have A22 := Aside0.mk A220
                          clear A220
                          by_cases c23 : (t174.length : Int) = 17
                          · rw [if_pos c23] at H
                            have c23b0 : ((t174.length : Int) == 17) = true := beq_iff_eq.mpr c23
                            have c23b1 : ((t174.length : Int) != 17) = false := bne_eq_false_iff_eq.mpr c23
                            clear c23
                            obtain rfl := Option.some.inj H
                            go_enter Try.func7, Try.ntmps7
                            go_wp2_with (first | ((with_reducible refine gate_callee (f := 8) rfl ?_); refine goesL_ (some 6) rfl rfl Try.func8 (by kernel_rfl) rfl #[.int .i64 2, .int .i64 5, .int .i64 0] rfl (by (try simp only [List.map_toArray, List.map_cons, List.map_nil]); first | done | rfl | (simp only [List.length_drop, List.length_take]; rfl)) ?_; (with_reducible refine (fsm_Next.calls k 2 5 0 t155 t156 t157 t158 true _ A1.out).mono ?_); rintro e w24 ⟨rfl, hb⟩; refine ⟨_, rfl, ?_⟩; have n0_ := Aside0.mk (below_step (by repeat (first | (with_reducible first | exact HB.out | apply below_alloc | apply pw_below_drewN | apply below_drew1) | exact HB.out)) hb); clear HB; have HB := n0_; clear n0_; (try clear hb); (try clear hb2); (try clear hk); (try clear hi)) | ((with_reducible refine gate_dst (N := 1) rfl ?_); (try (refine gate_guard (by rfl) ?_; dsimp only)); refine box_event ?hg (N := 1) ?hd (cs := #[.int .i64 0, .int .i64 0, .int .i64 0, .int .i64 0]) (t := 24) ?hr ?_; (case hd => rfl); (case hg => rfl); (case hr => first | (go_simp; done) | (go_simp; rfl)); intro gb160 hg w25 hbox hb; have n0_ := Aside0.mk (below_step (by repeat (first | (with_reducible first | exact HB.out | apply below_alloc | apply pw_below_drewN | apply below_drew1) | exact HB.out)) hb); have n1_ := Aside0.mk (hbox); have n2_ := Aside0.mk ((by rw [hg]; exact (below_size (by repeat (first | (with_reducible first | exact HB.out | apply below_alloc | apply pw_below_drewN | apply below_drew1) | exact HB.out))) : w.heap.size ≤ gb160)); have n3_ := Aside0.mk ((by rw [hg]; exact (below_size (by repeat (first | (with_reducible first | exact HB.out | apply below_alloc | apply pw_below_drewN | apply below_drew1) | exact HB.out))) : w.heap.size ≤ gb160)); clear HB; have HB := n0_; have BK160 := n1_; have GW160 := n2_; have GE160 := n3_; clear n0_ n1_ n2_ n3_; clear hb hbox hg; have hcz26_0 : w25.cell? ⟨gb160, 0, none⟩ = some (.int .i64 0) := (blk_cell BK160.out 0).trans rfl; have hcz26_1 : w25.cell? ⟨gb160, 1, none⟩ = some (.int .i64 0) := (blk_cell BK160.out 1).trans rfl; have hcz26_2 : w25.cell? ⟨gb160, 2, none⟩ = some (.int .i64 0) := (blk_cell BK160.out 2).trans rfl; have hcz26_3 : w25.cell? ⟨gb160, 3, none⟩ = some (.int .i64 0) := (blk_cell BK160.out 3).trans rfl; have hfz26_0 := blk_frozen BK160.out 0; have hfz26_1 := blk_frozen BK160.out 1; have hfz26_2 := blk_frozen BK160.out 2; have hfz26_3 := blk_frozen BK160.out 3) | ((with_reducible refine gate_callee (f := 8) rfl ?_); refine goesL_ (some 10) rfl rfl Try.func8 (by kernel_rfl) rfl #[.int .i64 2, .int .i64 1, .int .i64 0] rfl (by (try simp only [List.map_toArray, List.map_cons, List.map_nil]); first | done | rfl | (simp only [List.length_drop, List.length_take]; rfl)) ?_; (with_reducible refine (fsm_Next.calls k 2 1 0 t161 t162 t163 t164 false _ A2.out).mono ?_); rintro e w27 ⟨rfl, hb⟩; refine ⟨_, rfl, ?_⟩; have n0_ := Aside0.mk (blk_below (g := gb160) (o := .cells #[.int .i64 t155, .int .i64 t156, .int .i64 t157, .int .i64 t158] 24 (0, 0)) (by (with_reducible repeat (first | refine blk_drewN ?_ _ | refine blk_drew ?_ | refine blk_alloc ?_ _)); refine blk_put (cs := #[.int .i64 t155, .int .i64 t156, .int .i64 t157, .int .i64 0]) ?_ 3 _ rfl; (with_reducible repeat (first | refine blk_drewN ?_ _ | refine blk_drew ?_ | refine blk_alloc ?_ _)); refine blk_put (cs := #[.int .i64 t155, .int .i64 t156, .int .i64 0, .int .i64 0]) ?_ 2 _ rfl; (with_reducible repeat (first | refine blk_drewN ?_ _ | refine blk_drew ?_ | refine blk_alloc ?_ _)); refine blk_put (cs := #[.int .i64 t155, .int .i64 0, .int .i64 0, .int .i64 0]) ?_ 1 _ rfl; (with_reducible repeat (first | refine blk_drewN ?_ _ | refine blk_drew ?_ | refine blk_alloc ?_ _)); refine blk_put (cs := #[.int .i64 0, .int .i64 0, .int .i64 0, .int .i64 0]) ?_ 0 _ rfl; (with_reducible repeat (first | refine blk_drewN ?_ _ | refine blk_drew ?_ | refine blk_alloc ?_ _)); exact BK160.out) hb); have n1_ := Aside0.mk (below_step (by repeat (first | (with_reducible first | exact HB.out | apply below_alloc | apply pw_below_drewN | apply below_drew1 | refine below_set ?_ GE160.out) | exact HB.out)) hb); clear BK160; clear HB; have BK160 := n0_; have HB := n1_; clear n0_ n1_; (try clear hb); (try clear hb2); (try clear hk); (try clear hi)) | ((with_reducible refine gate_dst (N := 3) rfl ?_); (try (refine gate_guard (by rfl) ?_; dsimp only)); refine box_event ?hg (N := 3) ?hd (cs := #[.int .i64 0, .int .i64 0, .int .i64 0, .int .i64 0]) (t := 24) ?hr ?_; (case hd => rfl); (case hg => rfl); (case hr => first | (go_simp; done) | (go_simp; rfl)); intro gb166 hg w28 hbox hb; have n0_ := Aside0.mk (blk_below (g := gb160) (o := .cells #[.int .i64 t155, .int .i64 t156, .int .i64 t157, .int .i64 t158] 24 (0, 0)) (by (with_reducible repeat (first | refine blk_drewN ?_ _ | refine blk_drew ?_ | refine blk_alloc ?_ _)); exact BK160.out) hb); have n1_ := Aside0.mk (below_step (by repeat (first | (with_reducible first | exact HB.out | apply below_alloc | apply pw_below_drewN | apply below_drew1 | refine below_set ?_ GE160.out) | exact HB.out)) hb); have n2_ := Aside0.mk (hbox); have n3_ := Aside0.mk ((by rw [hg]; exact (below_size (by repeat (first | (with_reducible first | exact HB.out | apply below_alloc | apply pw_below_drewN | apply below_drew1 | refine below_set ?_ GE160.out) | exact HB.out))) : w.heap.size ≤ gb166)); have n4_ := Aside0.mk ((by rw [hg]; exact (below_size (by repeat (first | (with_reducible first | exact HB.out | apply below_alloc | apply pw_below_drewN | apply below_drew1 | refine below_set ?_ GE160.out) | exact HB.out))) : w.heap.size ≤ gb166)); have n5_ := Aside0.mk ((by rw [hg]; exact Nat.ne_of_lt (blk_lt (g := gb160) (o := .cells #[.int .i64 t155, .int .i64 t156, .int .i64 t157, .int .i64 t158] 24 (0, 0)) (by (with_reducible repeat (first | refine blk_drewN ?_ _ | refine blk_drew ?_ | refine blk_alloc ?_ _)); exact BK160.out)) : gb160 ≠ gb166)); have n6_ := Aside0.mk ((by rw [hg]; exact Nat.ne_of_gt (blk_lt (g := gb160) (o := .cells #[.int .i64 t155, .int .i64 t156, .int .i64 t157, .int .i64 t158] 24 (0, 0)) (by (with_reducible repeat (first | refine blk_drewN ?_ _ | refine blk_drew ?_ | refine blk_alloc ?_ _)); exact BK160.out)) : gb166 ≠ gb160)); clear BK160; clear HB; have BK160 := n0_; have HB := n1_; have BK166 := n2_; have GW166 := n3_; have GE166 := n4_; have NB160_166 := n5_; have NB166_160 := n6_; clear n0_ n1_ n2_ n3_ n4_ n5_ n6_; clear hb hbox hg; have hnb29 := NB166_160.out; have hnc29 := NB160_166.out; have hcz30_0 : w28.cell? ⟨gb166, 0, none⟩ = some (.int .i64 0) := (blk_cell BK166.out 0).trans rfl; have hcz30_1 : w28.cell? ⟨gb166, 1, none⟩ = some (.int .i64 0) := (blk_cell BK166.out 1).trans rfl; have hcz30_2 : w28.cell? ⟨gb166, 2, none⟩ = some (.int .i64 0) := (blk_cell BK166.out 2).trans rfl; have hcz30_3 : w28.cell? ⟨gb166, 3, none⟩ = some (.int .i64 0) := (blk_cell BK166.out 3).trans rfl; have hfz30_0 := blk_frozen BK166.out 0; have hfz30_1 := blk_frozen BK166.out 1; have hfz30_2 := blk_frozen BK166.out 2; have hfz30_3 := blk_frozen BK166.out 3; have hcz31_0 : w28.cell? ⟨gb160, 0, none⟩ = some (.int .i64 t155) := (blk_cell BK160.out 0).trans rfl; have hcz31_1 : w28.cell? ⟨gb160, 1, none⟩ = some (.int .i64 t156) := (blk_cell BK160.out 1).trans rfl; have hcz31_2 : w28.cell? ⟨gb160, 2, none⟩ = some (.int .i64 t157) := (blk_cell BK160.out 2).trans rfl; have hcz31_3 : w28.cell? ⟨gb160, 3, none⟩ = some (.int .i64 t158) := (blk_cell BK160.out 3).trans rfl; have hfz31_0 := blk_frozen BK160.out 0; have hfz31_1 := blk_frozen BK160.out 1; have hfz31_2 := blk_frozen BK160.out 2; have hfz31_3 := blk_frozen BK160.out 3) | ((with_reducible refine gate_callee (f := 15) rfl ?_); (try (refine gate_guard (by rfl) ?_; dsimp only)); refine goesL_ (some 34) rfl rfl Try.func15 (by kernel_rfl) rfl #[.int .i64 0, .int .i64 9] rfl (by (try simp only [List.map_toArray, List.map_cons, List.map_nil]); first | done | rfl | (simp only [List.length_drop, List.length_take]; rfl)) ?_; (with_reducible refine (fsm_Right.calls k 0 9 true _ A8.out).mono ?_); rintro e w32 ⟨rfl, hb⟩; refine ⟨_, rfl, ?_⟩; have n0_ := Aside0.mk (blk_below (g := gb160) (o := .cells #[.int .i64 t155, .int .i64 t156, .int .i64 t157, .int .i64 t158] 24 (0, 0)) (by (with_reducible repeat (first | refine blk_drewN ?_ _ | refine blk_drew ?_ | refine blk_alloc ?_ _)); refine blk_far ?_ NB160_166.out _; (with_reducible repeat (first | refine blk_drewN ?_ _ | refine blk_drew ?_ | refine blk_alloc ?_ _)); refine blk_far ?_ NB160_166.out _; (with_reducible repeat (first | refine blk_drewN ?_ _ | refine blk_drew ?_ | refine blk_alloc ?_ _)); refine blk_far ?_ NB160_166.out _; (with_reducible repeat (first | refine blk_drewN ?_ _ | refine blk_drew ?_ | refine blk_alloc ?_ _)); refine blk_far ?_ NB160_166.out _; (with_reducible repeat (first | refine blk_drewN ?_ _ | refine blk_drew ?_ | refine blk_alloc ?_ _)); exact BK160.out) hb); have n1_ := Aside0.mk (blk_below (g := gb166) (o := .cells #[.int .i64 t161, .int .i64 t162, .int .i64 t163, .int .i64 t164] 24 (0, 0)) (by (with_reducible repeat (first | refine blk_drewN ?_ _ | refine blk_drew ?_ | refine blk_alloc ?_ _)); refine blk_put (cs := #[.int .i64 t161, .int .i64 t162, .int .i64 t163, .int .i64 0]) ?_ 3 _ rfl; (with_reducible repeat (first | refine blk_drewN ?_ _ | refine blk_drew ?_ | refine blk_alloc ?_ _)); refine blk_put (cs := #[.int .i64 t161, .int .i64 t162, .int .i64 0, .int .i64 0]) ?_ 2 _ rfl; (with_reducible repeat (first | refine blk_drewN ?_ _ | refine blk_drew ?_ | refine blk_alloc ?_ _)); refine blk_put (cs := #[.int .i64 t161, .int .i64 0, .int .i64 0, .int .i64 0]) ?_ 1 _ rfl; (with_reducible repeat (first | refine blk_drewN ?_ _ | refine blk_drew ?_ | refine blk_alloc ?_ _)); refine blk_put (cs := #[.int .i64 0, .int .i64 0, .int .i64 0, .int .i64 0]) ?_ 0 _ rfl; (with_reducible repeat (first | refine blk_drewN ?_ _ | refine blk_drew ?_ | refine blk_alloc ?_ _)); exact BK166.out) hb); have n2_ := Aside0.mk (below_step (by repeat (first | (with_reducible first | exact HB.out | apply below_alloc | apply pw_below_drewN | apply below_drew1 | refine below_set ?_ GE160.out | refine below_set ?_ GE166.out) | exact HB.out)) hb); clear BK160; clear BK166; clear HB; have BK160 := n0_; have BK166 := n1_; have HB := n2_; clear n0_ n1_ n2_; (try clear hb); (try clear hb2); (try clear hk); (try clear hi)) | ((with_reducible refine gate_callee (f := 15) rfl ?_); (try (refine gate_guard (by rfl) ?_; dsimp only)); refine goesL_ (some 37) rfl rfl Try.func15 (by kernel_rfl) rfl #[.int .i64 1, .int .i64 1] rfl (by (try simp only [List.map_toArray, List.map_cons, List.map_nil]); first | done | rfl | (simp only [List.length_drop, List.length_take]; rfl)) ?_; (with_reducible refine (fsm_Right.calls k 1 1 false _ A10.out).mono ?_); rintro e w33 ⟨rfl, hb⟩; refine ⟨_, rfl, ?_⟩; have n0_ := Aside0.mk (blk_below (g := gb160) (o := .cells #[.int .i64 t155, .int .i64 t156, .int .i64 t157, .int .i64 t158] 24 (0, 0)) (by (with_reducible repeat (first | refine blk_drewN ?_ _ | refine blk_drew ?_ | refine blk_alloc ?_ _)); exact BK160.out) hb); have n1_ := Aside0.mk (blk_below (g := gb166) (o := .cells #[.int .i64 t161, .int .i64 t162, .int .i64 t163, .int .i64 t164] 24 (0, 0)) (by (with_reducible repeat (first | refine blk_drewN ?_ _ | refine blk_drew ?_ | refine blk_alloc ?_ _)); exact BK166.out) hb); have n2_ := Aside0.mk (below_step (by repeat (first | (with_reducible first | exact HB.out | apply below_alloc | apply pw_below_drewN | apply below_drew1 | refine below_set ?_ GE160.out | refine below_set ?_ GE166.out) | exact HB.out)) hb); clear BK160; clear BK166; clear HB; have BK160 := n0_; have BK166 := n1_; have HB := n2_; clear n0_ n1_ n2_; (try clear hb); (try clear hb2); (try clear hk); (try clear hi)) | ((with_reducible refine gate_callee (f := 11) rfl ?_); (try (refine gate_guard (by rfl) ?_; dsimp only)); refine goesL_ (some 41) rfl rfl Try.func11 (by kernel_rfl) rfl #[.int .i64 1, .int .i64 0, .int .i64 2, .int .i64 0] rfl (by (try simp only [List.map_toArray, List.map_cons, List.map_nil]); first | done | rfl | (simp only [List.length_drop, List.length_take]; rfl)) ?_; (with_reducible refine (fsm_May.calls k 1 0 2 0 true _ A12.out).mono ?_); rintro e w34 ⟨rfl, hb⟩; refine ⟨_, rfl, ?_⟩; have n0_ := Aside0.mk (blk_below (g := gb160) (o := .cells #[.int .i64 t155, .int .i64 t156, .int .i64 t157, .int .i64 t158] 24 (0, 0)) (by (with_reducible repeat (first | refine blk_drewN ?_ _ | refine blk_drew ?_ | refine blk_alloc ?_ _)); exact BK160.out) hb); have n1_ := Aside0.mk (blk_below (g := gb166) (o := .cells #[.int .i64 t161, .int .i64 t162, .int .i64 t163, .int .i64 t164] 24 (0, 0)) (by (with_reducible repeat (first | refine blk_drewN ?_ _ | refine blk_drew ?_ | refine blk_alloc ?_ _)); exact BK166.out) hb); have n2_ := Aside0.mk (below_step (by repeat (first | (with_reducible first | exact HB.out | apply below_alloc | apply pw_below_drewN | apply below_drew1 | refine below_set ?_ GE160.out | refine below_set ?_ GE166.out) | exact HB.out)) hb); clear BK160; clear BK166; clear HB; have BK160 := n0_; have BK166 := n1_; have HB := n2_; clear n0_ n1_ n2_; (try clear hb); (try clear hb2); (try clear hk); (try clear hi)) | ((with_reducible refine gate_callee (f := 11) rfl ?_); (try (refine gate_guard (by rfl) ?_; dsimp only)); refine goesL_ (some 44) rfl rfl Try.func11 (by kernel_rfl) rfl #[.int .i64 0, .int .i64 0, .int .i64 2, .int .i64 0] rfl (by (try simp only [List.map_toArray, List.map_cons, List.map_nil]); first | done | rfl | (simp only [List.length_drop, List.length_take]; rfl)) ?_; (with_reducible refine (fsm_May.calls k 0 0 2 0 false _ A14.out).mono ?_); rintro e w35 ⟨rfl, hb⟩; refine ⟨_, rfl, ?_⟩; have n0_ := Aside0.mk (blk_below (g := gb160) (o := .cells #[.int .i64 t155, .int .i64 t156, .int .i64 t157, .int .i64 t158] 24 (0, 0)) (by (with_reducible repeat (first | refine blk_drewN ?_ _ | refine blk_drew ?_ | refine blk_alloc ?_ _)); exact BK160.out) hb); have n1_ := Aside0.mk (blk_below (g := gb166) (o := .cells #[.int .i64 t161, .int .i64 t162, .int .i64 t163, .int .i64 t164] 24 (0, 0)) (by (with_reducible repeat (first | refine blk_drewN ?_ _ | refine blk_drew ?_ | refine blk_alloc ?_ _)); exact BK166.out) hb); have n2_ := Aside0.mk (below_step (by repeat (first | (with_reducible first | exact HB.out | apply below_alloc | apply pw_below_drewN | apply below_drew1 | refine below_set ?_ GE160.out | refine below_set ?_ GE166.out) | exact HB.out)) hb); clear BK160; clear BK166; clear HB; have BK160 := n0_; have BK166 := n1_; have HB := n2_; clear n0_ n1_ n2_; (try clear hb); (try clear hb2); (try clear hk); (try clear hi)) | ((with_reducible refine gate_callee (f := 13) rfl ?_); (try (refine gate_guard (by rfl) ?_; dsimp only)); refine goesL_ (some 48) rfl rfl Try.func13 (by kernel_rfl) rfl #[.int .i64 0, .int .i64 0, .int .i64 3, .int .i64 0] rfl (by (try simp only [List.map_toArray, List.map_cons, List.map_nil]); first | done | rfl | (simp only [List.length_drop, List.length_take]; rfl)) ?_; (with_reducible refine (fsm_Path.calls k 0 0 3 0 true _ A16.out).mono ?_); rintro e w36 ⟨rfl, hb⟩; refine ⟨_, rfl, ?_⟩; have n0_ := Aside0.mk (blk_below (g := gb160) (o := .cells #[.int .i64 t155, .int .i64 t156, .int .i64 t157, .int .i64 t158] 24 (0, 0)) (by (with_reducible repeat (first | refine blk_drewN ?_ _ | refine blk_drew ?_ | refine blk_alloc ?_ _)); exact BK160.out) hb); have n1_ := Aside0.mk (blk_below (g := gb166) (o := .cells #[.int .i64 t161, .int .i64 t162, .int .i64 t163, .int .i64 t164] 24 (0, 0)) (by (with_reducible repeat (first | refine blk_drewN ?_ _ | refine blk_drew ?_ | refine blk_alloc ?_ _)); exact BK166.out) hb); have n2_ := Aside0.mk (below_step (by repeat (first | (with_reducible first | exact HB.out | apply below_alloc | apply pw_below_drewN | apply below_drew1 | refine below_set ?_ GE160.out | refine below_set ?_ GE166.out) | exact HB.out)) hb); clear BK160; clear BK166; clear HB; have BK160 := n0_; have BK166 := n1_; have HB := n2_; clear n0_ n1_ n2_; (try clear hb); (try clear hb2); (try clear hk); (try clear hi)) | ((with_reducible refine gate_callee (f := 17) rfl ?_); (try (refine gate_guard (by rfl) ?_; dsimp only)); refine goesL_ (some 51) rfl rfl Try.func17 (by kernel_rfl) rfl #[.int .i64 1] rfl (by (try simp only [List.map_toArray, List.map_cons, List.map_nil]); first | done | rfl | (simp only [List.length_drop, List.length_take]; rfl)) ?_; (with_reducible refine (fsm_Name.calls 1 t172 _ A18.out).mono ?_); rintro e w37 ⟨rfl, hb⟩; refine ⟨_, rfl, ?_⟩; have n0_ := Aside0.mk (blk_below (g := gb160) (o := .cells #[.int .i64 t155, .int .i64 t156, .int .i64 t157, .int .i64 t158] 24 (0, 0)) (by (with_reducible repeat (first | refine blk_drewN ?_ _ | refine blk_drew ?_ | refine blk_alloc ?_ _)); exact BK160.out) hb); have n1_ := Aside0.mk (blk_below (g := gb166) (o := .cells #[.int .i64 t161, .int .i64 t162, .int .i64 t163, .int .i64 t164] 24 (0, 0)) (by (with_reducible repeat (first | refine blk_drewN ?_ _ | refine blk_drew ?_ | refine blk_alloc ?_ _)); exact BK166.out) hb); have n2_ := Aside0.mk (below_step (by repeat (first | (with_reducible first | exact HB.out | apply below_alloc | apply pw_below_drewN | apply below_drew1 | refine below_set ?_ GE160.out | refine below_set ?_ GE166.out) | exact HB.out)) hb); clear BK160; clear BK166; clear HB; have BK160 := n0_; have BK166 := n1_; have HB := n2_; clear n0_ n1_ n2_; (try clear hb); (try clear hb2); (try clear hk); (try clear hi)) | ((with_reducible refine gate_callee (f := 17) rfl ?_); (try (refine gate_guard (by rfl) ?_; dsimp only)); refine goesL_ (some 55) rfl rfl Try.func17 (by kernel_rfl) rfl #[.int .i64 4] rfl (by (try simp only [List.map_toArray, List.map_cons, List.map_nil]); first | done | rfl | (simp only [List.length_drop, List.length_take]; rfl)) ?_; (with_reducible refine (fsm_Name.calls 4 t173 _ A20.out).mono ?_); rintro e w38 ⟨rfl, hb⟩; refine ⟨_, rfl, ?_⟩; have n0_ := Aside0.mk (blk_below (g := gb160) (o := .cells #[.int .i64 t155, .int .i64 t156, .int .i64 t157, .int .i64 t158] 24 (0, 0)) (by (with_reducible repeat (first | refine blk_drewN ?_ _ | refine blk_drew ?_ | refine blk_alloc ?_ _)); exact BK160.out) hb); have n1_ := Aside0.mk (blk_below (g := gb166) (o := .cells #[.int .i64 t161, .int .i64 t162, .int .i64 t163, .int .i64 t164] 24 (0, 0)) (by (with_reducible repeat (first | refine blk_drewN ?_ _ | refine blk_drew ?_ | refine blk_alloc ?_ _)); exact BK166.out) hb); have n2_ := Aside0.mk (below_step (by repeat (first | (with_reducible first | exact HB.out | apply below_alloc | apply pw_below_drewN | apply below_drew1 | refine below_set ?_ GE160.out | refine below_set ?_ GE166.out) | exact HB.out)) hb); clear BK160; clear BK166; clear HB; have BK160 := n0_; have BK166 := n1_; have HB := n2_; clear n0_ n1_ n2_; (try clear hb); (try clear hb2); (try clear hk); (try clear hi)) | ((with_reducible refine gate_callee (f := 10) rfl ?_); (try (refine gate_guard (by rfl) ?_; dsimp only)); refine goesL_ (some 59) rfl rfl Try.func10 (by kernel_rfl) rfl #[] rfl (by (try simp only [List.map_toArray, List.map_cons, List.map_nil]); first | done | rfl | (simp only [List.length_drop, List.length_take]; rfl)) ?_; (with_reducible refine (fsm_Edges.calls k  t174 _ A22.out).mono ?_); rintro e w39 ⟨v175, rfl, ho0, hb⟩; refine ⟨_, rfl, ?_⟩; have n0_ := Aside0.mk (Kd.R_lower (Kd.R_newB (Kd.R_newB ho0 (g := gb160) (o := .cells #[.int .i64 t155, .int .i64 t156, .int .i64 t157, .int .i64 t158] 24 (0, 0)) (by (with_reducible repeat (first | refine blk_drewN ?_ _ | refine blk_drew ?_ | refine blk_alloc ?_ _)); exact BK160.out)) (g := gb166) (o := .cells #[.int .i64 t161, .int .i64 t162, .int .i64 t163, .int .i64 t164] 24 (0, 0)) (by (with_reducible repeat (first | refine blk_drewN ?_ _ | refine blk_drew ?_ | refine blk_alloc ?_ _)); exact BK166.out)) (below_size (by repeat (first | (with_reducible first | exact HB.out | apply below_alloc | apply pw_below_drewN | apply below_drew1 | refine below_set ?_ GE160.out | refine below_set ?_ GE166.out) | exact HB.out)))); have n1_ := Aside0.mk (blk_below (g := gb160) (o := .cells #[.int .i64 t155, .int .i64 t156, .int .i64 t157, .int .i64 t158] 24 (0, 0)) (by (with_reducible repeat (first | refine blk_drewN ?_ _ | refine blk_drew ?_ | refine blk_alloc ?_ _)); exact BK160.out) hb); have n2_ := Aside0.mk (blk_below (g := gb166) (o := .cells #[.int .i64 t161, .int .i64 t162, .int .i64 t163, .int .i64 t164] 24 (0, 0)) (by (with_reducible repeat (first | refine blk_drewN ?_ _ | refine blk_drew ?_ | refine blk_alloc ?_ _)); exact BK166.out) hb); have n3_ := Aside0.mk (below_step (by repeat (first | (with_reducible first | exact HB.out | apply below_alloc | apply pw_below_drewN | apply below_drew1 | refine below_set ?_ GE160.out | refine below_set ?_ GE166.out) | exact HB.out)) hb); clear BK160; clear BK166; clear HB; have HO176 := n0_; have BK160 := n1_; have BK166 := n2_; have HB := n3_; clear n0_ n1_ n2_ n3_; (try clear hb); (try clear hb2); (try clear hk); (try clear hi); (try clear ho0); obtain ⟨Ao40, co40, eo40⟩ := Kd.R_slice HO176.out; subst eo40))
                            go_ret
                            exact ⟨by first | rfl | (simp [errW_none, errW_some] <;> rfl) | (simp [*, errW_none, errW_some] <;> rfl) | (simp [*, errW_none, errW_some]; exact (by intro l_; cases l_ <;> rfl : ∀ l_ : List UInt8, l_.isEmpty = !(l_ != [])) _), by repeat (first | (with_reducible first | exact HB.out | apply below_alloc | apply pw_below_drewN | apply below_drew1 | refine below_set ?_ GE160.out | refine below_set ?_ GE166.out) | exact HB.out)⟩
                          · rw [if_neg c23] at H
                            exact absurd H (by simp)
                        · rw [if_neg c21] at H
                          exact absurd H (by simp)
                      · rw [if_neg c19] at H
                        exact absurd H (by simp)
                    · replace c17 := Bool.eq_false_iff.mpr c17
                      subst c17
                      have H1 : (none) = some r := by rw [if_neg (show ¬ (false = true) by decide)] at H; exact H
                      clear H
                      have H := H1
                      clear H1
                      exact absurd H (by simp)
                · replace c13 := Bool.eq_false_iff.mpr c13
                  subst c13
                  have H1 : (none) = some r := by rw [if_neg (show ¬ (false = true) by decide)] at H; exact H
                  clear H
                  have H := H1
                  clear H1
                  exact absurd H (by simp)
            · replace c9 := Bool.eq_false_iff.mpr c9
              subst c9
              have H1 : (none) = some r := by rw [if_neg (show ¬ (false = true) by decide)] at H; exact H
              clear H
              have H := H1
              clear H1
              exact absurd H (by simp)
        · rw [if_neg c6] at H
          exact absurd H (by simp)
      · rw [if_neg c5] at H
        exact absurd H (by simp)
    · rw [if_neg c4] at H
      exact absurd H (by simp)
  · replace c3 := Bool.eq_false_iff.mpr c3
    subst c3
    have H1 : (none) = some r := by rw [if_neg (show ¬ (false = true) by decide)] at H; exact H
    clear H
    have H := H1
    clear H1
    exact absurd H (by simp)

/-! ### outpostref22_Next: function 9 -/
def outpostref22_Next.f (a0 : Int) (a1 : Int) (a2 : Int) : Option (Int × Int × Bool) := if a1 = 1 then (some (1, 0, (a0 == 0))) else (if a1 = 2 then (some (2, 0, (a0 == 1))) else (if a1 = 3 then (if a0 = 1 then (if a2 ≥ 2 then (some (0, a2, decide (a2 ≤ 9))) else (some (0, a2, false))) else (some (0, a2, false))) else (if a1 = 4 then (if a0 = 0 then (some (0, 0, true)) else (if a0 = 1 then (some (0, 0, true)) else (some (0, 0, (a0 == 2))))) else (if a1 = 5 then (some (3, 0, (a0 == 2))) else (if a1 = 6 then (some (0, 1, (a0 == 3))) else (if a1 = 7 then (some (0, 8, (a0 == 3))) else (if a1 = 8 then (some (0, 5, (a0 == 2))) else (some (0, 0, false)))))))))
set_option maxHeartbeats 8000000 in
set_option maxRecDepth 100000 in
theorem outpostref22_Next.calls (a0 : Int) (a1 : Int) (a2 : Int) (r1 : Int) (r2 : Int) (r3 : Bool) (w : World) (h : outpostref22_Next.f a0 a1 a2 = some (r1, r2, r3)) :
    Calls Try.prog 9 #[.int .i64 a0, .int .i64 a1, .int .i64 a2] w fun e w' => e = .returned (.tuple #[.int .i64 r1, .int .i64 r2, .bool r3]) ∧ Drawn0 w w' := by
  have H : (if a1 = 1 then (some (1, 0, (a0 == 0))) else (if a1 = 2 then (some (2, 0, (a0 == 1))) else (if a1 = 3 then (if a0 = 1 then (if a2 ≥ 2 then (some (0, a2, decide (a2 ≤ 9))) else (some (0, a2, false))) else (some (0, a2, false))) else (if a1 = 4 then (if a0 = 0 then (some (0, 0, true)) else (if a0 = 1 then (some (0, 0, true)) else (some (0, 0, (a0 == 2))))) else (if a1 = 5 then (some (3, 0, (a0 == 2))) else (if a1 = 6 then (some (0, 1, (a0 == 3))) else (if a1 = 7 then (some (0, 8, (a0 == 3))) else (if a1 = 8 then (some (0, 5, (a0 == 2))) else (some (0, 0, false)))))))))) = some (r1, r2, r3) := h
  clear h
  by_cases c4 : a1 = 1
  · rw [if_pos c4] at H
    have c4b0 : (a1 == 1) = true := beq_iff_eq.mpr c4
    have c4b1 : (a1 != 1) = false := bne_eq_false_iff_eq.mpr c4
    clear c4
    simp only [Option.some.injEq, Prod.mk.injEq] at H
    obtain ⟨rfl, rfl, rfl⟩ := H
    go_enter Try.func9, Try.ntmps9
    go_wp2
    go_ret3
    exact ⟨by first | rfl | (simp; done) | (simp [*]; done), by repeat (first | exact Drawn0.refl _ | apply Drawn0.step)⟩
  · rw [if_neg c4] at H
    have c4b0 : (a1 == 1) = false := beq_eq_false_iff_ne.mpr c4
    have c4b1 : (a1 != 1) = true := bne_iff_ne.mpr c4
    by_cases c5 : a1 = 2
    · rw [if_pos c5] at H
      have c5b0 : (a1 == 2) = true := beq_iff_eq.mpr c5
      have c5b1 : (a1 != 2) = false := bne_eq_false_iff_eq.mpr c5
      clear c5
      simp only [Option.some.injEq, Prod.mk.injEq] at H
      obtain ⟨rfl, rfl, rfl⟩ := H
      go_enter Try.func9, Try.ntmps9
      go_wp2
      go_ret3
      exact ⟨by first | rfl | (simp; done) | (simp [*]; done), by repeat (first | exact Drawn0.refl _ | apply Drawn0.step)⟩
    · rw [if_neg c5] at H
      have c5b0 : (a1 == 2) = false := beq_eq_false_iff_ne.mpr c5
      have c5b1 : (a1 != 2) = true := bne_iff_ne.mpr c5
      by_cases c6 : a1 = 3
      · rw [if_pos c6] at H
        have c6b0 : (a1 == 3) = true := beq_iff_eq.mpr c6
        have c6b1 : (a1 != 3) = false := bne_eq_false_iff_eq.mpr c6
        clear c6
        by_cases c7 : a0 = 1
        · rw [if_pos c7] at H
          have c7b0 : (a0 == 1) = true := beq_iff_eq.mpr c7
          have c7b1 : (a0 != 1) = false := bne_eq_false_iff_eq.mpr c7
          clear c7
          by_cases c8 : a2 ≥ 2
          · rw [if_pos c8] at H
            have c8b0 : decide (2 ≤ a2) = true := decide_eq_true c8
            clear c8
            simp only [Option.some.injEq, Prod.mk.injEq] at H
            obtain ⟨rfl, rfl, rfl⟩ := H
            go_enter Try.func9, Try.ntmps9
            go_wp2
            go_ret3
            exact ⟨by first | rfl | (simp; done) | (simp [*]; done), by repeat (first | exact Drawn0.refl _ | apply Drawn0.step)⟩
          · rw [if_neg c8] at H
            have c8b0 : decide (2 ≤ a2) = false := decide_eq_false c8
            clear c8
            simp only [Option.some.injEq, Prod.mk.injEq] at H
            obtain ⟨rfl, rfl, rfl⟩ := H
            go_enter Try.func9, Try.ntmps9
            go_wp2
            go_ret3
            exact ⟨by first | rfl | (simp; done) | (simp [*]; done), by repeat (first | exact Drawn0.refl _ | apply Drawn0.step)⟩
        · rw [if_neg c7] at H
          have c7b0 : (a0 == 1) = false := beq_eq_false_iff_ne.mpr c7
          have c7b1 : (a0 != 1) = true := bne_iff_ne.mpr c7
          simp only [Option.some.injEq, Prod.mk.injEq] at H
          obtain ⟨rfl, rfl, rfl⟩ := H
          go_enter Try.func9, Try.ntmps9
          go_wp2
          go_ret3
          exact ⟨by first | rfl | (simp; done) | (simp [*]; done), by repeat (first | exact Drawn0.refl _ | apply Drawn0.step)⟩
      · rw [if_neg c6] at H
        have c6b0 : (a1 == 3) = false := beq_eq_false_iff_ne.mpr c6
        have c6b1 : (a1 != 3) = true := bne_iff_ne.mpr c6
        by_cases c9 : a1 = 4
        · rw [if_pos c9] at H
          have c9b0 : (a1 == 4) = true := beq_iff_eq.mpr c9
          have c9b1 : (a1 != 4) = false := bne_eq_false_iff_eq.mpr c9
          clear c9
          by_cases c10 : a0 = 0
          · rw [if_pos c10] at H
            have c10b0 : (a0 == 0) = true := beq_iff_eq.mpr c10
            have c10b1 : (a0 != 0) = false := bne_eq_false_iff_eq.mpr c10
            clear c10
            simp only [Option.some.injEq, Prod.mk.injEq] at H
            obtain ⟨rfl, rfl, rfl⟩ := H
            go_enter Try.func9, Try.ntmps9
            go_wp2
            go_ret3
            exact ⟨by first | rfl | (simp; done) | (simp [*]; done), by repeat (first | exact Drawn0.refl _ | apply Drawn0.step)⟩
          · rw [if_neg c10] at H
            have c10b0 : (a0 == 0) = false := beq_eq_false_iff_ne.mpr c10
            have c10b1 : (a0 != 0) = true := bne_iff_ne.mpr c10
            by_cases c11 : a0 = 1
            · rw [if_pos c11] at H
              have c11b0 : (a0 == 1) = true := beq_iff_eq.mpr c11
              have c11b1 : (a0 != 1) = false := bne_eq_false_iff_eq.mpr c11
              clear c11
              simp only [Option.some.injEq, Prod.mk.injEq] at H
              obtain ⟨rfl, rfl, rfl⟩ := H
              go_enter Try.func9, Try.ntmps9
              go_wp2
              go_ret3
              exact ⟨by first | rfl | (simp; done) | (simp [*]; done), by repeat (first | exact Drawn0.refl _ | apply Drawn0.step)⟩
            · rw [if_neg c11] at H
              have c11b0 : (a0 == 1) = false := beq_eq_false_iff_ne.mpr c11
              have c11b1 : (a0 != 1) = true := bne_iff_ne.mpr c11
              simp only [Option.some.injEq, Prod.mk.injEq] at H
              obtain ⟨rfl, rfl, rfl⟩ := H
              go_enter Try.func9, Try.ntmps9
              go_wp2
              go_ret3
              exact ⟨by first | rfl | (simp; done) | (simp [*]; done), by repeat (first | exact Drawn0.refl _ | apply Drawn0.step)⟩
        · rw [if_neg c9] at H
          have c9b0 : (a1 == 4) = false := beq_eq_false_iff_ne.mpr c9
          have c9b1 : (a1 != 4) = true := bne_iff_ne.mpr c9
          by_cases c12 : a1 = 5
          · rw [if_pos c12] at H
            have c12b0 : (a1 == 5) = true := beq_iff_eq.mpr c12
            have c12b1 : (a1 != 5) = false := bne_eq_false_iff_eq.mpr c12
            clear c12
            simp only [Option.some.injEq, Prod.mk.injEq] at H
            obtain ⟨rfl, rfl, rfl⟩ := H
            go_enter Try.func9, Try.ntmps9
            go_wp2
            go_ret3
            exact ⟨by first | rfl | (simp; done) | (simp [*]; done), by repeat (first | exact Drawn0.refl _ | apply Drawn0.step)⟩
          · rw [if_neg c12] at H
            have c12b0 : (a1 == 5) = false := beq_eq_false_iff_ne.mpr c12
            have c12b1 : (a1 != 5) = true := bne_iff_ne.mpr c12
            by_cases c13 : a1 = 6
            · rw [if_pos c13] at H
              have c13b0 : (a1 == 6) = true := beq_iff_eq.mpr c13
              have c13b1 : (a1 != 6) = false := bne_eq_false_iff_eq.mpr c13
              clear c13
              simp only [Option.some.injEq, Prod.mk.injEq] at H
              obtain ⟨rfl, rfl, rfl⟩ := H
              go_enter Try.func9, Try.ntmps9
              go_wp2
              go_ret3
              exact ⟨by first | rfl | (simp; done) | (simp [*]; done), by repeat (first | exact Drawn0.refl _ | apply Drawn0.step)⟩
            · rw [if_neg c13] at H
              have c13b0 : (a1 == 6) = false := beq_eq_false_iff_ne.mpr c13
              have c13b1 : (a1 != 6) = true := bne_iff_ne.mpr c13
              by_cases c14 : a1 = 7
              · rw [if_pos c14] at H
                have c14b0 : (a1 == 7) = true := beq_iff_eq.mpr c14
                have c14b1 : (a1 != 7) = false := bne_eq_false_iff_eq.mpr c14
                clear c14
                simp only [Option.some.injEq, Prod.mk.injEq] at H
                obtain ⟨rfl, rfl, rfl⟩ := H
                go_enter Try.func9, Try.ntmps9
                go_wp2
                go_ret3
                exact ⟨by first | rfl | (simp; done) | (simp [*]; done), by repeat (first | exact Drawn0.refl _ | apply Drawn0.step)⟩
              · rw [if_neg c14] at H
                have c14b0 : (a1 == 7) = false := beq_eq_false_iff_ne.mpr c14
                have c14b1 : (a1 != 7) = true := bne_iff_ne.mpr c14
                by_cases c15 : a1 = 8
                · rw [if_pos c15] at H
                  have c15b0 : (a1 == 8) = true := beq_iff_eq.mpr c15
                  have c15b1 : (a1 != 8) = false := bne_eq_false_iff_eq.mpr c15
                  clear c15
                  simp only [Option.some.injEq, Prod.mk.injEq] at H
                  obtain ⟨rfl, rfl, rfl⟩ := H
                  go_enter Try.func9, Try.ntmps9
                  go_wp2
                  go_ret3
                  exact ⟨by first | rfl | (simp; done) | (simp [*]; done), by repeat (first | exact Drawn0.refl _ | apply Drawn0.step)⟩
                · rw [if_neg c15] at H
                  have c15b0 : (a1 == 8) = false := beq_eq_false_iff_ne.mpr c15
                  have c15b1 : (a1 != 8) = true := bne_iff_ne.mpr c15
                  simp only [Option.some.injEq, Prod.mk.injEq] at H
                  obtain ⟨rfl, rfl, rfl⟩ := H
                  go_enter Try.func9, Try.ntmps9
                  go_wp2
                  go_ret3
                  exact ⟨by first | rfl | (simp; done) | (simp [*]; done), by repeat (first | exact Drawn0.refl _ | apply Drawn0.step)⟩

end Go.Proofs.Ytibjiigiaebepaa.PAll
