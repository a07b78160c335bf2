/- copy. -/
import Derived.Test.YtlaojkheenobaaaDoorTW
namespace Go.Proofs.YtlaojkheenobaaaDoorS
open Go Go.RowKit
set_option linter.unusedVariables false
set_option linter.unusedSimpArgs false
section
variable {X : Type} {P : Program} {T : Tab} {fr : Fr} {φ φ' : Nm → Loc} {F F' B : Nat → Prop} {s : St} {a : Act} {w w' : World} {out : X}
/-- What a copy takes from: its first elements. -/
structure Src2 (P : Program) (size : Nat) (v : Value) (n : Nat) (news : List Value) (w : World) : Prop where
  len : (Builtin.lenOf v).run P w = .ok n w
  cells : ∀ m, m ≤ n → (Builtin.firstCells size m v).run P w = .ok (news.take (m * size)).toArray w
theorem srcOf_spec2 (hT : TabOk T P) (hI : Inv fr φ F s a w) {tx : Nat} {x : AVal} {v : Value} {K : Option Nat → List CV → Option X} (h : srcOf s.nodes x K = some out) (hx : VRel w φ F B x v) :
    ∃ sh ys, K sh ys = some out ∧ (0 < szOf sh → ∃ news, Rows w F sh ys news ∧ Src2 P (szOf sh) v ys.length news w) := by
  unfold srcOf at h
  split at h
  · next b =>
    obtain rfl := hx.str
    have hl : (strCV b).length = b.size := by simp [strCV]
    refine ⟨none, _, h, fun _ => ⟨_, strCV_rows b, ?_, fun m hm => ?_⟩⟩
    · rw [hl]; rfl
    · rw [hl] at hm
      simp only [Builtin.firstCells, Sem.run_pure, szOf, Nat.mul_one]
      congr 1
      apply Array.ext'
      simp [byteCells, ByteArray.data_extract, List.map_take]
  · next hno =>
    obtain ⟨sh, ys, G, h1, hr⟩ := rowOf_spec hI h hx
    refine ⟨sh, ys, h1, fun h0 => ?_⟩
    obtain ⟨A, c, cs, rfl, hc, hrows, hcell⟩ := hr.rows h0
    refine ⟨cs, hrows, rfl, fun m hm => ?_⟩
    have hle : m * szOf sh ≤ cs.length := by rw [hrows.1]; exact Nat.mul_le_mul_right _ hm
    rcases hcell with rfl | ⟨b, o, rfl, _, hcell⟩
    · have hcs : cs = [] := List.eq_nil_of_length_eq_zero (by rw [hrows.1]; simp)
      subst hcs
      have hm0 : m = 0 := by simpa using hm
      subst hm0
      have := firstCells_zero (P := P) (szOf sh) A c w
      simpa using this
    · refine run_firstCells_some (P := P) w (szOf sh) m _ _ c (cs.take (m * szOf sh)) (by rw [List.length_take]; omega) (fun j u hu => ?_)
      rw [List.getElem?_take] at hu
      split at hu
      · rw [add_none]; exact hcell j u hu
      · cases hu
theorem Rows.take' {sh : Option Nat} {xs : List CV} {cs : List Value} (h : Rows w F sh xs cs) (n : Nat) : Rows w F sh (xs.take n) (cs.take (n * szOf sh)) := by
  rcases Nat.lt_or_ge xs.length n with hn | hn
  · have h1 : xs.take n = xs.take xs.length := by rw [List.take_of_length_le (by omega), List.take_length]
    have h2 : cs.take (n * szOf sh) = cs.take (xs.length * szOf sh) := by
      rw [List.take_of_length_le (by rw [h.1]; exact Nat.mul_le_mul_right _ (by omega)), List.take_of_length_le (by rw [h.1]; exact Nat.le_refl _)]
    rw [h1, h2]
    exact h.take _ (Nat.le_refl _)
  · exact h.take n hn
theorem lt_min {a b : Nat} : Nat.min a b ≤ a := Nat.min_le_left a b
theorem evCopy_sound (hT : TabOk T P) (hI : Inv fr φ F s a w) {t tx : Nat} {x y : AVal} {vx vy : Value} {K : St → AVal → Option X} (h : evCopy T s t tx x y K = some out) (hx : VRel w φ F fr.B x vx) (hy : VRel w φ F fr.B y vy) (ty : TypeId) :
    ∃ s' z v w', K s' z = some out ∧ Inv fr φ F s' a w' ∧ VRel w' φ F fr.B z v ∧ (Builtin.copy_ #[t, tx] ty #[vx, vy]).run P w = .ok v w' := by
  unfold evCopy at h
  split at h
  · next e _ _ _ eq =>
    have hu := hT.td t _ eq
    simp only [TDOk] at hu
    obtain ⟨g0, h⟩ := grd_some h
    obtain ⟨sh', ys, h1, hsrc⟩ := srcOf_spec2 (tx := tx) hT hI h hy
    clear h
    split at h1
    · next nm sh off len =>
      split at h1
      · next sh0 xs hf =>
        obtain ⟨g1, h2⟩ := grd_some h1
        simp only [Bool.and_eq_true] at g1
        obtain ⟨⟨⟨g1, g2⟩, g3⟩, g4⟩ := g1
        have g1 := shEq_iff g1
        have g2 := shEq_iff g2
        have g3 := shEq_iff g3
        subst g1
        subst g3
        obtain ⟨g6, h3⟩ := grd_some h2
        have g6 := of_decide_eq_true g6
        obtain ⟨inf, zv, i1, i2, i3, i4, i5, i6, i7, i8, i9, i10⟩ := elemOk_spec hT g4
        obtain ⟨news, hrows, hs⟩ := hsrc i6
        have hm := find_mem hf
        obtain ⟨_, blk, hb, hbn, hrow⟩ := hI.nd nm _ hm
        have hwi : ∀ n : Nat, n < 9223372036854775808 → IntKind.i64.wrap n = n := fun n hn => by
          unfold IntKind.wrap; simp [IntKind.bits, IntKind.signed]; omega
        have hmin : min ys.length len = Nat.min ys.length len := rfl
        cases hx with
        | oslD hd => rw [hb] at hd; cases hd
        | osl hp ho =>
          rename_i blk1 n1
          have hcase : (∃ A c, vx = .slice A 0 c ∧ len = 0) ∨ ∃ b cap, blk1 = some b ∧ vx = .slice (some ⟨b, off * szOf (shOf T e), none⟩) len cap ∧ off + len ≤ n1 := by
            rcases ho with ⟨A, rfl, rfl, hno⟩ | ⟨b, cap, rfl, rfl, k1, k2, k3, k4⟩ | ⟨rfl, A, cap, rfl, k1, k2, k3⟩
            · exact .inl ⟨A, 0, rfl, rfl⟩
            · rw [deSh_ne k4] at g2
              subst g2
              exact .inr ⟨b, cap, rfl, rfl, k1⟩
            · rcases Nat.eq_zero_or_pos len with hl0 | hl0
              · subst hl0; exact .inl ⟨A, cap, rfl, rfl⟩
              · obtain ⟨b, rfl, rfl⟩ := k3 (by omega)
                have g2' : none = shOf T e := g2
                exact .inr ⟨b, cap, rfl, by rw [← g2', szOf, Nat.mul_one], k1⟩
          rcases hcase with ⟨A, c, rfl, rfl⟩ | ⟨b, cap, rfl, rfl, k1⟩
          · -- nothing is copied
            rw [hb] at hp
            cases hp
            refine ⟨_, _, .int .i64 0, w, h3, ?_, ?_, ?_⟩
            · have e2 : (xs.take off ++ ys.take (min ys.length 0) ++ xs.drop (off + min ys.length 0)) = xs := by simp
              rw [e2]
              have e3 : s.setN nm (.row false (shOf T e) xs) = s := by
                show (⟨s.tmps, upd nm _ s.nodes⟩ : St) = s
                rw [upd_same hf]
              rw [e3]; exact hI
            · simp only [Nat.min_zero]; exact .v (.int _ _)
            · have hf0 := hs.cells 0 (Nat.zero_le _)
              rw [Nat.zero_mul, List.take_zero] at hf0
              unfold Builtin.copy_
              have e0 : Nat.min ys.length 0 = 0 := Nat.min_zero _
              cases A with
              | none => simp [run_underlying hu, hs.len, e0, sizeOf, run_typeInfo w i1, i2, hf0, goInt]
              | some ad => simp [run_underlying hu, hs.len, e0, sizeOf, run_typeInfo w i1, i2, hf0, goInt, storeCells]
          · rw [hb] at hp
            cases hp
            obtain ⟨hw, hz, hl, hel⟩ := hrow b rfl
            have hlen : (ys.take (min ys.length len)).length = min ys.length len := by rw [List.length_take]; omega
            have hrt := hrows.take' (min ys.length len)
            obtain ⟨hI2, hst⟩ := hI.splice hf hb hrt (o := off) (by rw [hlen]; omega)
            rw [hlen] at hI2
            refine ⟨_, _, .int .i64 (min ys.length len : Nat), _, h3, hI2, .v (.int _ _), ?_⟩
            have hf1 := hs.cells (min ys.length len) (Nat.min_le_left _ _)
            have hnl : (news.take (min ys.length len * szOf (shOf T e))).length = min ys.length len * szOf (shOf T e) := by
              have := hrt.1
              rw [hlen] at this
              exact this
            have hfit : off * szOf (shOf T e) + min ys.length len * szOf (shOf T e) ≤ bsize w b := by
              rw [← Nat.add_mul]
              exact Nat.le_trans (Nat.mul_le_mul_right _ (by omega : off + min ys.length len ≤ xs.length)) hl
            have hsto := run_storeCells_cells (P := P) b (off * szOf (shOf T e)) (news.take (min ys.length len * szOf (shOf T e))) 0 w (fun j hj => (hw.2 _ (by rw [hnl] at hj; omega)).2) (fun j hj => (hw.2 _ (by rw [hnl] at hj; omega)).1) (hrt.one i6)
            simp only [Nat.add_zero] at hsto
            unfold Builtin.copy_
            simp only [Nat.min_def] at hf1 hsto hnl ⊢
            simp [run_underlying hu, hs.len, sizeOf, run_typeInfo w i1, i2, hf1, hsto, goInt, Nat.min_def]
      · cases h1
    · obtain ⟨g1, h2⟩ := grd_some h1
      simp only [Bool.and_eq_true] at g1
      have g2 := shEq_iff g1.1
      subst g2
      obtain ⟨inf, zv, i1, i2, i3, i4, i5, i6, i7, i8, i9, i10⟩ := elemOk_spec hT g1.2
      obtain ⟨news, hrows, hs⟩ := hsrc i6
      cases hx with
      | nil0 A =>
        refine ⟨_, _, .int .i64 0, w, h2, hI, .v (.int _ _), ?_⟩
        have hf0 := hs.cells 0 (Nat.zero_le _)
        rw [Nat.zero_mul, List.take_zero] at hf0
        unfold Builtin.copy_
        have e0 : Nat.min ys.length 0 = 0 := Nat.min_zero _
        cases A with
        | none => simp [run_underlying hu, hs.len, e0, sizeOf, run_typeInfo w i1, i2, hf0, goInt]
        | some ad => simp [run_underlying hu, hs.len, e0, sizeOf, run_typeInfo w i1, i2, hf0, goInt, storeCells]
    · cases h1
  · cases h
end
end Go.Proofs.YtlaojkheenobaaaDoorS
