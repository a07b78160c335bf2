/- append, copy, assignment. -/
import Derived.Test.YtlaojkheenobaaaDoorSY
import Derived.Lib.AppendZerosOnto
namespace Go.Proofs.YtlaojkheenobaaaDoorS
open Go Go.RowKit
set_option linter.unusedVariables false
set_option linter.unusedSimpArgs false
section
variable {X : Type} {P : Program} {T : Tab} {fr : Fr} {φ φ' : Nm → Loc} {F F' B : Nat → Prop} {s : St} {a : Act} {w w' : World} {out : X}
theorem isSlT_spec (hT : TabOk T P) {t : Nat} (h : isSlT T t = true) : ∃ e, P.underlying t = some (.slice e) := by
  unfold isSlT at h
  split at h
  · next e _ _ _ eq => exact ⟨e, hT.td t _ eq⟩
  · cases h
theorem rowOf_spec (hI : Inv fr φ F s a w) {x : AVal} {v : Value} {K : Option Nat → List CV → Option X} (h : rowOf s.nodes x K = some out) (hx : VRel w φ F B x v) : ∃ sh ys G, K sh ys = some out ∧ RowRel w F G sh ys v := by
  unfold rowOf at h
  split at h
  · next p sh xs => cases hx with | sl hr => exact ⟨_, _, _, h, hr⟩
  · next sh xs => cases hx with | v hr => exact ⟨_, _, _, h, hr.row⟩
  · next sh => cases hx with | nil0 A => exact ⟨_, _, F, h, ⟨A, 0, rfl, Nat.le_refl _, fun h => absurd h (Nat.lt_irrefl _)⟩⟩
  · next nm sh off len =>
    split at h
    · next fz ys e => exact ⟨_, _, _, h, (osC_spec hI e hx).1⟩
    · cases h
  · cases h
theorem strCV_rows (b : ByteArray) : Rows w F none (strCV b) (byteCells b) := by
  refine ⟨by simp [strCV, byteCells, szOf], fun i x hx => ?_⟩
  simp only [strCV, List.getElem?_map, Option.map_eq_some_iff] at hx
  obtain ⟨c, hc, rfl⟩ := hx
  refine ⟨[.int .u8 c.toNat], ⟨rfl, rfl, fun u hu => by simp at hu; rw [← hu]; exact .int _ _⟩, fun j u hu => ?_⟩
  cases j with
  | zero =>
    simp only [List.getElem?_cons_zero, Option.some.injEq] at hu
    rw [← hu, szOf, Nat.mul_one, Nat.add_zero]
    simp only [byteCells, List.getElem?_map, hc, Option.map_some]
  | succ j => simp at hu
/-- What an append takes from. -/
theorem srcOf_spec (hT : TabOk T P) (hI : Inv fr φ F s a w) {tx : Nat} {x : AVal} (htx : srcT T tx x = true) {v : Value} {K : Option Nat → List CV → Option X} (h : srcOf s.nodes x K = some out) (hx : VRel w φ F B x v) :
    ∃ sh ys, K sh ys = some out ∧ (0 < szOf sh → ∃ news, Rows w F sh ys news ∧ Src P (szOf sh) tx v ys.length news w) := by
  unfold srcOf at h
  split at h
  · next b =>
    obtain rfl := hx.str
    refine ⟨none, _, h, fun _ => ⟨_, strCV_rows b, ?_⟩⟩
    have := Src.ofString (P := P) w (strT_spec hT htx) b
    have hl : (strCV b).length = b.size := by simp [strCV]
    rw [hl]
    exact this
  · next hno =>
    have htx' : isSlT T tx = true := by
      unfold srcT at htx
      split at htx
      · next b => exact absurd rfl (hno b)
      · exact htx
    obtain ⟨sh, ys, G, h1, hr⟩ := rowOf_spec hI h hx
    refine ⟨sh, ys, h1, fun h0 => ?_⟩
    obtain ⟨A, c, cs, rfl, hc, hrows, hcell⟩ := hr.rows h0
    obtain ⟨e, he⟩ := isSlT_spec hT htx'
    refine ⟨cs, hrows, ?_⟩
    rcases hcell with rfl | ⟨b, o, rfl, _, hcell⟩
    · have hcs : cs = [] := List.eq_nil_of_length_eq_zero (by rw [hrows.1]; simp)
      subst hcs
      cases A with
      | none => exact Src.ofNil w he c
      | some ad => exact Src.ofSlice w he ad 0 c [] (by simp) (fun j u hu => by simp at hu) (fun u hu => by simp at hu)
    · exact Src.ofSlice w he _ _ c cs hrows.1 (fun j u hu => by rw [add_none]; exact hcell j u hu) (hrows.one h0)
theorem grow_fits {need cap bytes : Nat} (h : cap < need) (hb : need * bytes ≤ 140737488355328) : Builtin.nextslicecap need cap * bytes ≤ 281474976710656 := growslice_fits h hb
theorem Rows.append {sh : Option Nat} {xs ys : List CV} {cs ds : List Value} (h : Rows w F sh xs cs) (h' : Rows w F sh ys ds) : Rows w F sh (xs ++ ys) (cs ++ ds) := by
  refine ⟨by rw [List.length_append, List.length_append, h.1, h'.1, Nat.add_mul], fun i x hx => ?_⟩
  rcases Nat.lt_or_ge i xs.length with hi | hi
  · rw [List.getElem?_append_left hi] at hx
    obtain ⟨us, g1, g2⟩ := h.2 i x hx
    refine ⟨us, g1, fun j u hu => ?_⟩
    have := g2 j u hu
    rw [List.getElem?_append_left (List.getElem?_eq_some_iff.1 this).1]
    exact this
  · rw [List.getElem?_append_right hi] at hx
    obtain ⟨us, g1, g2⟩ := h'.2 _ x hx
    refine ⟨us, g1, fun j u hu => ?_⟩
    have := g2 j u hu
    have h1 : cs.length ≤ i * szOf sh + j := by
      rw [h.1]
      have : xs.length * szOf sh ≤ i * szOf sh := Nat.mul_le_mul_right _ hi
      omega
    rw [List.getElem?_append_right h1]
    have h2 : i * szOf sh + j - cs.length = (i - xs.length) * szOf sh + j := by
      rw [h.1, Nat.sub_mul]
      have : xs.length * szOf sh ≤ i * szOf sh := Nat.mul_le_mul_right _ hi
      omega
    rw [h2]; exact this
theorem Rows.take {sh : Option Nat} {xs : List CV} {cs : List Value} (h : Rows w F sh xs cs) (n : Nat) (hn : n ≤ xs.length) : Rows w F sh (xs.take n) (cs.take (n * szOf sh)) := by
  refine ⟨?_, fun i x hx => ?_⟩
  · rw [List.length_take, List.length_take, h.1, Nat.min_eq_left hn, Nat.min_eq_left (Nat.mul_le_mul_right _ hn)]
  · rw [List.getElem?_take] at hx
    split at hx
    · next hi =>
      obtain ⟨us, g1, g2⟩ := h.2 i x hx
      refine ⟨us, g1, fun j u hu => ?_⟩
      have hj := (List.getElem?_eq_some_iff.1 hu).1
      rw [g1.1] at hj
      rw [List.getElem?_take, if_pos, g2 j u hu]
      have : (i + 1) * szOf sh ≤ n * szOf sh := Nat.mul_le_mul_right _ hi
      rw [Nat.add_mul, Nat.one_mul] at this
      omega
    · cases hx
/-- A row's node as cells. -/
theorem NRel.rows {nm : Nm} {fz : Bool} {sh : Option Nat} {xs : List CV} {b k : Nat} (h : NRel w φ F B nm (.row fz sh xs)) (hb : φ nm = .at_ (some b) k) : k = xs.length ∧ 0 < szOf sh ∧ WrB sh w b ∧ xs.length * szOf sh ≤ bsize w b ∧ ∃ cs, Rows w F sh xs cs ∧ ∀ (j : Nat) u, cs[j]? = some u → w.cell? ⟨b, j, none⟩ = some u := by
  obtain ⟨h0, blk, h1, h2, h3⟩ := h
  rw [hb] at h1
  cases h1
  obtain ⟨h4, h5, h6, h7⟩ := h3 b rfl
  have hr : RowRel w F (fun _ => True) sh xs (.slice (some ⟨b, 0, none⟩) xs.length xs.length) := ⟨_, _, rfl, Nat.le_refl _, fun _ => ⟨b, 0, rfl, trivial, fun i x hx => by rw [Nat.zero_add]; exact h7 i x hx⟩⟩
  obtain ⟨A, c, cs, e, _, hrows, hc⟩ := hr.rows h0
  refine ⟨rfl, h0, h4, h6, cs, hrows, fun j u hu => ?_⟩
  rcases hc with rfl | ⟨b', o', e', _, hc⟩
  · have : cs = [] := List.eq_nil_of_length_eq_zero (by rw [hrows.1]; simp)
    subst this
    simp at hu
  · cases e
    cases e'
    have := hc j u hu
    rwa [Nat.zero_add] at this
theorem Stp.drew (w : World) : Stp (fun _ => False) w w.drew := Stp.drawn w _
theorem Rows.drop {sh : Option Nat} {xs : List CV} {cs : List Value} (h : Rows w F sh xs cs) (n : Nat) : Rows w F sh (xs.drop n) (cs.drop (n * szOf sh)) := by
  refine ⟨by rw [List.length_drop, List.length_drop, h.1, Nat.sub_mul], fun i x hx => ?_⟩
  rw [List.getElem?_drop] at hx
  obtain ⟨us, g1, g2⟩ := h.2 _ x hx
  refine ⟨us, g1, fun j u hu => ?_⟩
  have := g2 j u hu
  rw [List.getElem?_drop, ← this, Nat.add_mul]
  congr 1
  omega
theorem upd_same {nm : Nm} {n : Node} : ∀ {l : Nodes}, find nm l = some n → upd nm n l = l
  | [], h => by cases h
  | (m, k) :: l, h => by
    unfold find at h
    unfold upd
    cases e : nmEq m nm with
    | true => rw [e] at h; cases h; rw [cond_true, nmEq_iff.1 e]
    | false => rw [e] at h; rw [cond_false, upd_same h]
/-- Elements of a row are written. -/
theorem Inv.splice (hI : Inv fr φ F s a w) {nm : Nm} {sh : Option Nat} {xs ys : List CV} {o b k : Nat} {news : List Value} (hf : find nm s.nodes = some (.row false sh xs)) (hb : φ nm = .at_ (some b) k) (hrows : Rows w F sh ys news) (ho : o + ys.length ≤ xs.length) :
    Inv fr φ F (s.setN nm (.row false sh (xs.take o ++ ys ++ xs.drop (o + ys.length)))) a (w.setCells b (o * szOf sh) news) ∧ Stp (fun i => i = b) w (w.setCells b (o * szOf sh) news) := by
  have hm := find_mem hf
  obtain ⟨hkl, h0, hw, hl, cs, hcs, hcc⟩ := (hI.nd nm _ hm).rows hb
  have hown := hI.own nm _ b _ hm rfl hb
  have hst := Stp.setCells b news (o * szOf sh) w
  have hnl : news.length = ys.length * szOf sh := hrows.1
  have hin : o * szOf sh + ys.length * szOf sh ≤ xs.length * szOf sh := by rw [← Nat.add_mul]; exact Nat.mul_le_mul_right _ ho
  have hcell : ∀ q, q < news.length → (w.cell? ⟨b, o * szOf sh + q, none⟩).isSome = true := fun q hq => (hw.2 _ (by omega)).2
  have hFk : ∀ k, F k → (w.setCells b (o * szOf sh) news).heap[k]? = w.heap[k]? := fun k hk => hst.block k (hI.fb k (.inl hk)) (fun e => hown.1 (e ▸ hk))
  have hlen : (xs.take o ++ ys ++ xs.drop (o + ys.length)).length = xs.length := by
    rw [List.length_append, List.length_append, List.length_take, List.length_drop]; omega
  refine ⟨hI.setN hf rfl rfl hb hst (NRel.mkRow (cs := cs.take (o * szOf sh) ++ news ++ cs.drop ((o + ys.length) * szOf sh)) h0 (by rw [hlen, ← hkl]; exact hb) (hw.setCells news _ hcell (hrows.one h0)) (by rw [hst.bs b hw.1, hlen]; exact hl)
    ((((hcs.take o (by omega)).append hrows).append (hcs.drop _)).mono (fun _ h => h) hFk) (fun j u hu => ?_)) (fun cs e => by cases e), hst⟩
  have htk : (cs.take (o * szOf sh)).length = o * szOf sh := by rw [List.length_take, hcs.1]; omega
  rcases Nat.lt_or_ge j (o * szOf sh + news.length) with hj | hj
  · rw [List.getElem?_append_left (by rw [List.length_append, htk]; exact hj)] at hu
    rcases Nat.lt_or_ge j (o * szOf sh) with hj2 | hj2
    · rw [List.getElem?_append_left (by omega), List.getElem?_take, if_pos hj2] at hu
      rw [World.cell?_setCells_out b news _ w _ (fun _ _ => .inl (by simp only; omega))]
      exact hcc j u hu
    · rw [List.getElem?_append_right (by omega), htk] at hu
      have hq := (List.getElem?_eq_some_iff.1 hu).1
      have := World.cell?_setCells_in b news (o * szOf sh) w hcell _ hq
      rw [show o * szOf sh + (j - o * szOf sh) = j by omega] at this
      rw [this, ← hu, List.getElem?_eq_getElem hq]
  · rw [List.getElem?_append_right (by rw [List.length_append, htk]; exact hj), List.length_append, htk, List.getElem?_drop] at hu
    rw [World.cell?_setCells_out b news _ w _ (fun _ _ => .inr (by simp only; omega))]
    refine hcc j u ?_
    rw [← hu]
    congr 1
    rw [Nat.add_mul]
    omega
theorem srcCast {size tx n : Nat} {v : Value} {news : List Value} {size' : Nat} (h : Src P size tx v n news w) (e : size = size') : Src P size' tx v n news w := e ▸ h
/-- An append to what is empty, or has no room. -/
theorem evAppend_grow (hT : TabOk T P) (hFr : FrOk fr) (hI : Inv fr φ F s a w) {d t tx e : Nat} (hd : d < 1000) (hu : P.underlying t = some (.slice e)) (ho : elemOk T e = true) (hn : find [d] s.nodes = none) {base : Option Addr} {sLen sCap : Nat} {xs ys : List CV} {olds news : List Value} {v : Value}
    (hxl : xs.length = sLen) (hold : (Builtin.firstCells (szOf (shOf T e)) sLen (.slice base sLen sCap)).run P w.drew = .ok olds.toArray w.drew) (hx : Rows w F (shOf T e) xs olds) (hy : Rows w F (shOf T e) ys news) (hs : Src P (szOf (shOf T e)) tx v ys.length news w) (hg : sCap < sLen + ys.length) (hb : (sLen + ys.length) * bytesT T e ≤ 140737488355328) (ty : TypeId) :
    ∃ φ' w' v', Inv fr φ' F ((⟨s.tmps, insN ([d], .row false (shOf T e) (xs ++ ys)) s.nodes⟩ : St).put (some d) (.osl [d] (shOf T e) 0 (sLen + ys.length))) (a.put (some d) v') w' ∧ (Builtin.append_ #[t, tx] ty #[.slice base sLen sCap, v]).run P w = .ok v' w' := by
  obtain ⟨inf, zv, i1, i2, i3, i4, i5, i6, i7, i8, i9, i10⟩ := elemOk_spec hT ho
  rw [← i3] at hb
  have h63 : ((sLen + ys.length : Nat) : Int) ≤ 9223372036854775807 := by
    have : (sLen + ys.length) * 1 ≤ (sLen + ys.length) * inf.bytes := Nat.mul_le_mul_left _ i7
    omega
  have hrun := run_append_grow_src (P := P) w t tx ty e inf zv hu i1 i4 base sLen sCap olds (by rw [i2]; exact hold) v ys.length news (srcCast hs i2.symm) hg h63 (grow_fits hg hb)
  have hrows := hx.append hy
  have hlen : (xs ++ ys).length = sLen + ys.length := by rw [List.length_append, hxl]
  have hge := grownCap_ge w (sLen + ys.length) sCap e
  have hsz : ((olds ++ news).toArray ++ Builtin.zeroCells zv.cells (grownCap w (sLen + ys.length) sCap e - (sLen + ys.length))).size = grownCap w (sLen + ys.length) sCap e * szOf (shOf T e) := by
    rw [Array.size_append, size_zeroCells, i5, List.size_toArray, hrows.1, hlen, ← Nat.add_mul]
    congr 1
    omega
  obtain ⟨φ', hI'⟩ := Inv.layRow (fr := fr) (e := e) (cells := (olds ++ news).toArray ++ Builtin.zeroCells zv.cells (grownCap w (sLen + ys.length) sCap e - (sLen + ys.length))) hFr hI w.drew (Stp.drew w) rfl i6 hn hd hrows (fun j u hu => by
      have hj := (List.getElem?_eq_some_iff.1 hu).1
      rw [Array.getElem?_append_left (by simpa using hj)]
      simpa using hu) (by rw [hsz, hlen]; exact Nat.mul_le_mul_right _ hge) (fun u hu => by
        rw [Array.toList_append, List.mem_append] at hu
        rcases hu with hu | hu
        · exact hrows.one i6 u (by simpa using hu)
        · exact zeros_one (elemOk_one ho w i8) (by omega) _ u hu) hlen hge (by rw [hsz]; exact Nat.le_refl _)
  exact ⟨φ', _, _, hI', hrun⟩
theorem firstCells_zero (size : Nat) (A : Option Addr) (c : Nat) (w : World) : (Builtin.firstCells size 0 (.slice A 0 c)).run P w = .ok #[] w := by
  cases A with
  | none => exact run_firstCells_none w size 0 0 c
  | some ad => simpa using run_firstCells_some (P := P) w size 0 ad 0 c [] (by simp) (fun j v hv => by simp at hv)
/-- An append to what is empty and has no room. -/
theorem evAppend_empty (hT : TabOk T P) (hFr : FrOk fr) (hI : Inv fr φ F s a w) {d t tx e : Nat} (hd : d < 1000) (hu : P.underlying t = some (.slice e)) (ho : elemOk T e = true) (hn : find [d] s.nodes = none) (A : Option Addr) {ys : List CV} {news : List Value} {v : Value}
    (hy : Rows w F (shOf T e) ys news) (hs : Src P (szOf (shOf T e)) tx v ys.length news w) (hb : ys.length * bytesT T e ≤ 140737488355328) (ty : TypeId) :
    ∃ φ' w' v', Inv fr φ' F ((⟨s.tmps, insN ([d], .row false (shOf T e) ys) s.nodes⟩ : St).put (some d) (.osl [d] (shOf T e) 0 ys.length)) (a.put (some d) v') w' ∧ (Builtin.append_ #[t, tx] ty #[.slice A 0 0, v]).run P w = .ok v' w' := by
  obtain ⟨inf, zv, i1, i2, i3, i4, i5, i6, i7, i8, i9, i10⟩ := elemOk_spec hT ho
  rcases Nat.eq_zero_or_pos ys.length with hz | hz
  · have hys : ys = [] := List.eq_nil_of_length_eq_zero hz
    subst hys
    have hnews : news = [] := List.eq_nil_of_length_eq_zero (by rw [hy.1]; simp)
    subst hnews
    have hrun := run_append_nothing (P := P) w t tx ty e inf hu i1 A 0 0 (Nat.le_refl _) v (srcCast hs i2.symm)
    obtain ⟨φ1, hI1, hloc, _, hφ1⟩ := hI.new (nm := [d]) hn (.row false (shOf T e) []) (.at_ none 0) (T := fun _ => False) (Stp.refl _ _) (fun _ hf _ => hf.elim) (fun b k e => by cases e) (fun cs b k e => by cases e)
      (fun φ' _ hself _ => ⟨i6, none, hself, (fun _ => rfl), (fun b e => by cases e)⟩) (okNm_small hd)
    have hI1 : Inv fr φ1 F ⟨s.tmps, insN ([d], .row false (shOf T e) []) s.nodes⟩ a w := hI1.perm (insN_perm _ _)
    exact ⟨φ1, w, _, hI1.put (.osl hloc (.inl ⟨A, rfl, rfl, Nat.zero_le _⟩)) (some d), hrun⟩
  · obtain ⟨φ', w', v', hI', hrun⟩ := evAppend_grow hT hFr hI hd hu ho hn (base := A) (sLen := 0) (sCap := 0) (xs := []) (olds := []) rfl (firstCells_zero _ _ _ _) ⟨by simp, fun i x hx => by simp at hx⟩ hy hs (by omega) (by rw [Nat.zero_add]; exact hb) ty
    rw [List.nil_append, Nat.zero_add] at hI'
    exact ⟨φ', w', v', hI', hrun⟩
set_option maxHeartbeats 2000000 in
theorem evAppend_sound (hT : TabOk T P) (hFr : FrOk fr) (hI : Inv fr φ F s a w) {d : Option Tmp} {t tx : Nat} {x y : AVal} {vx vy : Value} {K : St → Option X} (h : evAppend T s d t tx x y K = some out) (hx : VRel w φ F fr.B x vx) (hy : VRel w φ F fr.B y vy) (ty : TypeId) :
    ∃ φ' s' w' v, K s' = some out ∧ Inv fr φ' F s' (a.put d v) w' ∧ (Builtin.append_ #[t, tx] ty #[vx, vy]).run P w = .ok v w' := by
  unfold evAppend at h
  split at h
  · next d e _ _ _ eq =>
    obtain ⟨g0, h1⟩ := grd_some h
    have hu := hT.td t _ eq
    simp only [TDOk] at hu
    obtain ⟨sh', ys, h2, hsrc⟩ := srcOf_spec hT hI g0 h1 hy
    clear h h1
    split at h2
    · next sh0 =>
      obtain ⟨g1, h3⟩ := grd_some h2
      simp only [Bool.and_eq_true] at g1
      obtain ⟨⟨g1, g2⟩, g3⟩ := g1
      have g1 := shEq_iff g1
      have g3 : d < 1000 := Nat.le_of_ble_eq_true g3
      obtain ⟨g4, h4⟩ := grd_some h3
      have g4 := of_decide_eq_true g4
      obtain ⟨hn, h5⟩ := new_some h4
      obtain ⟨inf, zv, i1, i2, i3, i4, i5, i6, i7, i8, i9, i10⟩ := elemOk_spec hT g2
      subst g1
      obtain ⟨news, hrows, hs⟩ := hsrc i6
      cases hx with
      | nil0 A =>
        obtain ⟨φ', w', v', hI', hrun⟩ := evAppend_empty hT hFr hI g3 hu g2 hn A hrows hs g4 ty
        exact ⟨φ', _, w', v', h5, hI', hrun⟩
    · next nm sh off len =>
      split at h2
      · next sh0 xs hf =>
        cases eo : ownSrc nm y with
        | true =>
          rw [eo] at h2
          obtain ⟨g1, h3⟩ := grd_some h2
          simp only [Bool.and_eq_true] at g1
          obtain ⟨⟨⟨g1, g5⟩, g6⟩, g2⟩ := g1
          have g1 := shEq_iff g1
          have g5 := shEq_iff g5
          have g6 := shEq_iff g6
          obtain ⟨g4, h4⟩ := grd_some h3
          have g4 := of_decide_eq_true g4
          obtain ⟨inf, zv, i1, i2, i3, i4, i5, i6, i7, i8, i9, i10⟩ := elemOk_spec hT g2
          subst g1 g5 g6
          obtain ⟨news, hrows, hs⟩ := hsrc i6
          have hm := find_mem hf
          cases hx with
          | oslD hd => obtain ⟨_, blk, h1, _⟩ := hI.nd nm _ hm; rw [h1] at hd; cases hd
          | osl hp ho =>
            obtain ⟨_, blk, h1, hbn, _⟩ := hI.nd nm _ hm
            rw [hp] at h1
            cases h1
            rcases ho with ⟨A, rfl, rfl, hno⟩ | ⟨b, cap, rfl, rfl, k1, k2, k3, k4⟩ | ⟨e0, _⟩
            rotate_left 2
            · exact absurd e0 (szOf_ne i6)
            · have hys : ys = [] := List.eq_nil_of_length_eq_zero (by omega)
              subst hys
              have hnews : news = [] := List.eq_nil_of_length_eq_zero (by rw [hrows.1]; simp)
              subst hnews
              have hrun := run_append_nothing (P := P) w t tx ty e inf hu i1 A 0 0 (Nat.le_refl _) vy (srcCast hs i2.symm)
              have e1 : xs.take (off + 0) ++ [] ++ xs.drop (off + 0 + ([] : List CV).length) = xs := by simp
              have e2 : (s.setN nm (.row false (shOf T e) xs)) = s := by
                show (⟨s.tmps, upd nm _ s.nodes⟩ : St) = s
                rw [upd_same hf]
              rw [e1, e2] at h4
              exact ⟨φ, _, w, _, h4, hI.put (.osl hp (.inl ⟨A, rfl, rfl, hno⟩)) (some d), hrun⟩
            · obtain ⟨hI2, hst⟩ := hI.splice (o := off + len) hf hp hrows g4
              have hw := (hI.nd nm _ hm).rows hp
              obtain ⟨_, _, hw, hl, _⟩ := hw
              have hroom : len + ys.length ≤ cap := by omega
              have hfit : off * szOf (shOf T e) + len * szOf (shOf T e) + news.length ≤ bsize w b := by
                rw [hrows.1, ← Nat.add_mul, ← Nat.add_mul]
                exact Nat.le_trans (Nat.mul_le_mul_right _ g4) hl
              have hrun := run_append_room_src (P := P) w t tx ty e inf hu i1 b (off * szOf (shOf T e)) len cap vy ys.length news (srcCast hs i2.symm) hroom (by rw [i2]; exact fun q hq => (hw.2 _ (by omega)).2) (by rw [i2]; exact fun q hq => (hw.2 _ (by omega)).1)
              rw [i2, ← Nat.add_mul] at hrun
              refine ⟨φ, _, _, _, h4, hI2.put (.osl hp (.inr (.inl ⟨b, cap, rfl, rfl, by omega, k2, ?_, k4⟩))) (some d), hrun⟩
              rw [hst.bs b hw.1]
              exact k3
        | false =>
        rw [eo] at h2
        obtain ⟨g1, h3⟩ := grd_some h2
        simp only [Bool.and_eq_true] at g1
        obtain ⟨⟨⟨⟨⟨g1, g5⟩, g6⟩, g7⟩, g2⟩, g3⟩ := g1
        have g1 := shEq_iff g1
        have g5 := shEq_iff g5
        have g6 := shEq_iff g6
        have g7 := Nat.eq_of_beq_eq_true g7
        have g3 : d < 1000 := Nat.le_of_ble_eq_true g3
        obtain ⟨g4, h4⟩ := grd_some h3
        have g4 := of_decide_eq_true g4
        obtain ⟨hn, h5⟩ := new_some h4
        obtain ⟨inf, zv, i1, i2, i3, i4, i5, i6, i7, i8, i9, i10⟩ := elemOk_spec hT g2
        subst g1 g5 g6 g7
        obtain ⟨news, hrows, hs⟩ := hsrc i6
        obtain ⟨φd, hId, hdead, hod⟩ := hI.dead hf
        have hm := find_mem hf
        cases hx with
        | oslD hd => obtain ⟨_, blk, h1, _⟩ := hI.nd nm _ hm; rw [h1] at hd; cases hd
        | osl hp ho =>
          rcases ho with ⟨A, rfl, rfl, _⟩ | ⟨b, cap, rfl, rfl, k1, k2, k3, k4⟩ | ⟨e0, _⟩
          rotate_left 2
          · exact absurd e0 (szOf_ne i6)
          · simp only [List.take_zero, List.nil_append, Nat.zero_add] at h5 g4
            obtain ⟨φ', w', v', hI', hrun⟩ := evAppend_empty hT hFr hId g3 hu g2 hn A hrows hs g4 ty
            exact ⟨φ', _, w', v', h5, hI', hrun⟩
          · rw [Nat.zero_mul]
            rw [Nat.zero_add] at k1 k2 k3
            obtain ⟨hkl, h0, hw, hl, cs, hcs, hcc⟩ := (hI.nd nm _ hm).rows hp
            subst hkl
            have hown := hI.own nm _ b _ hm rfl hp
            have holds := hcs.take len k1
            have holdc : ∀ (j : Nat) u, (cs.take (len * szOf (shOf T e)))[j]? = some u → w.cell? ⟨b, j, none⟩ = some u := fun j u hu => by
              rw [List.getElem?_take] at hu
              split at hu
              · exact hcc j u hu
              · cases hu
            have htl : (xs.take len).length = len := by rw [List.length_take]; omega
            rcases Nat.lt_or_ge cap (len + ys.length) with hg | hroom
            · have hold : (Builtin.firstCells (szOf (shOf T e)) len (.slice (some ⟨b, 0, none⟩) len cap)).run P w.drew = .ok (cs.take (len * szOf (shOf T e))).toArray w.drew :=
                run_firstCells_some (P := P) w.drew _ len _ len cap _ (by rw [holds.1, htl]) (fun j u hu => by rw [add_none, Nat.zero_add]; exact holdc j u hu)
              obtain ⟨φ', w', v', hI', hrun⟩ := evAppend_grow hT hFr hId g3 hu g2 hn htl hold holds hrows hs hg g4 ty
              exact ⟨φ', _, w', v', h5, hI', hrun⟩
            · have hfit : 0 + len * szOf (shOf T e) + news.length ≤ bsize w b := by
                rw [hrows.1, Nat.zero_add, ← Nat.add_mul]
                exact Nat.le_trans (Nat.mul_le_mul_right _ hroom) k3
              have hcell : ∀ q, q < news.length → (w.cell? ⟨b, 0 + len * szOf (shOf T e) + q, none⟩).isSome = true := fun q hq => (hw.2 _ (by omega)).2
              have hrun := run_append_room_src (P := P) w t tx ty e inf hu i1 b 0 len cap vy ys.length news (srcCast hs i2.symm) hroom (by rw [i2]; exact hcell) (by rw [i2]; exact fun q hq => (hw.2 _ (by omega)).1)
              rw [i2] at hrun
              have hst := Stp.setCells b news (0 + len * szOf (shOf T e)) w
              have hFk : ∀ k, F k → (w.setCells b (0 + len * szOf (shOf T e)) news).heap[k]? = w.heap[k]? := fun k hk => hst.block k (hI.fb k (.inl hk)) (fun e => hown.1 (e ▸ hk))
              have hne : ∀ m n j, (m, n) ∈ (s.setN nm .dead).nodes → n.own = true → φd m ≠ .at_ (some b) j := fun m n j hmm hno e => by
                by_cases hmn : m = nm
                · subst hmn; rw [hdead] at e; cases e
                · rw [hod m hmn] at e
                  rcases (mem_upd hI.uniq ⟨_, hm⟩ m n).1 hmm with h | h
                  · exact hmn h.1
                  · exact hmn (hI.sep m n nm _ b j _ h.2 hm hno rfl e hp)
              obtain ⟨φ1, hI1, hloc, _, hφ1⟩ := hId.new (nm := [d]) hn (.row false (shOf T e) (xs.take len ++ ys)) (.at_ (some b) (xs.take len ++ ys).length) hst
                (fun k hk _ => by subst hk; exact ⟨hown.1, hown.2.1, hown.2.2, fun m n j _ hmm hno => hne m n j hmm hno⟩)
                (fun b' k e => by cases e; exact ⟨hown.1, hown.2.1, hown.2.2, fun m n j _ hmm hno => hne m n j hmm hno⟩) (fun cs b k e => by cases e)
                (fun φ' _ hself _ => NRel.mkRow (cs := cs.take (len * szOf (shOf T e)) ++ news) i6 hself (hw.setCells news _ hcell (hrows.one i6)) (by
                    rw [hst.bs b hw.1, List.length_append, htl, Nat.add_mul]
                    rw [hrows.1] at hfit
                    omega)
                  ((holds.append hrows).mono (fun _ h => h) hFk) (fun j u hu => by
                    have hcl : (cs.take (len * szOf (shOf T e))).length = len * szOf (shOf T e) := by rw [holds.1, htl]
                    rcases Nat.lt_or_ge j (len * szOf (shOf T e)) with hj | hj
                    · rw [List.getElem?_append_left (by omega)] at hu
                      rw [World.cell?_setCells_out b news _ w _ (fun _ _ => .inl (by simp only; omega))]
                      exact holdc j u hu
                    · rw [List.getElem?_append_right (by omega), hcl] at hu
                      have hq := (List.getElem?_eq_some_iff.1 hu).1
                      have := World.cell?_setCells_in b news (0 + len * szOf (shOf T e)) w hcell _ hq
                      rw [show 0 + len * szOf (shOf T e) + (j - len * szOf (shOf T e)) = j by omega] at this
                      rw [this, ← hu, List.getElem?_eq_getElem hq])) (okNm_small g3)
              rw [List.length_append, htl] at hloc
              have hI1 : Inv fr φ1 F ⟨(s.setN nm .dead).tmps, insN ([d], .row false (shOf T e) (xs.take len ++ ys)) (s.setN nm .dead).nodes⟩ a _ := hI1.perm (insN_perm _ _)
              refine ⟨φ1, _, _, _, h5, hI1.put (.osl hloc (.inr (.inl ⟨b, cap, rfl, by rw [Nat.zero_mul], by omega, by omega, ?_, k4⟩))) (some d), hrun⟩
              rw [hst.bs b hw.1, Nat.zero_add]
              exact k3
      · cases h2
    · cases h2
  · cases h
theorem evClear_sound (hT : TabOk T P) (hI : Inv fr φ F s a w) {t : Nat} {x : AVal} {vx : Value} {K : St → Option X} (h : evClear T s t x K = some out) (hx : VRel w φ F fr.B x vx) (ty : TypeId) :
    ∃ s' w', K s' = some out ∧ Inv fr φ F s' a w' ∧ (Builtin.clear_ #[t] ty #[vx]).run P w = .ok (.tuple #[]) w' := by
  unfold evClear at h
  split at h
  · next e _ _ _ eq =>
    have hu := hT.td t _ eq
    simp only [TDOk] at hu
    split at h
    · next nm sh off len =>
      split at h
      · next sh0 xs z hf hz =>
        obtain ⟨g1, h3⟩ := grd_some h
        simp only [Bool.and_eq_true] at g1
        obtain ⟨⟨⟨g1, g5⟩, g2⟩, g6⟩ := g1
        have g1 := shEq_iff g1
        have g5 := shEq_iff g5
        obtain ⟨g4, h4⟩ := grd_some h3
        have g4 := of_decide_eq_true g4
        obtain ⟨inf, zv, i1, i2, i3, i4, i5, i6, i7, i8, i9, i10⟩ := elemOk_spec hT g2
        subst g1 g5
        have hm := find_mem hf
        cases hx with
        | oslD hd => obtain ⟨_, blk, h1, _⟩ := hI.nd nm _ hm; rw [h1] at hd; cases hd
        | osl hp ho =>
          obtain ⟨_, blk, h1, hbn, _⟩ := hI.nd nm _ hm
          rw [hp] at h1
          cases h1
          have hzr : CRel w F z zv := closed_spec hI (fun _ h => h) hz (i8 w φ F fr.B) (fun nm hm => by rw [i9] at hm; simp at hm)
          obtain ⟨hzrow, _⟩ := fitSh_row g6 hzr
          have none0 : ∀ {A : Option Addr} {c : Nat}, (Builtin.clear_ #[t] ty #[.slice A 0 c]).run P w = .ok (.tuple #[]) w := fun {A c} => by
            cases A with
            | none => simp [Builtin.clear_, run_underlying hu]
            | some A => simp [Builtin.clear_, run_underlying hu]
          have e2 : (s.setN nm (.row false (shOf T e) xs)) = s := by
            show (⟨s.tmps, upd nm _ s.nodes⟩ : St) = s
            rw [upd_same hf]
          rcases Nat.eq_zero_or_pos len with hl0 | hl0
          · subst hl0
            have e1 : xs.take off ++ List.replicate 0 z ++ xs.drop (off + 0) = xs := by simp
            rw [e1, e2] at h4
            rcases ho with ⟨A, rfl, _, hno⟩ | ⟨b, cap, rfl, rfl, k1, k2, k3, k4⟩ | ⟨e0, _⟩
            · exact ⟨s, w, h4, hI, none0⟩
            · exact ⟨s, w, h4, hI, none0⟩
            · exact absurd e0 (szOf_ne i6)
          · rcases ho with ⟨A, rfl, rfl, hno⟩ | ⟨b, cap, rfl, rfl, k1, k2, k3, k4⟩ | ⟨e0, _⟩
            rotate_left 2
            · exact absurd e0 (szOf_ne i6)
            · exact absurd hl0 (Nat.lt_irrefl _)
            · have hrows := Rows.zeros i6 hzrow len
              have hzc : zv.cells.toList.toArray = zv.cells := by simp
              rw [hzc] at hrows
              obtain ⟨hI2, hst⟩ := hI.splice (o := off) hf hp hrows (by simpa using g4)
              rw [List.length_replicate] at hI2
              refine ⟨_, _, h4, hI2, ?_⟩
              obtain ⟨_, _, hw, hl, _⟩ := (hI.nd nm _ hm).rows hp
              have hle : off * szOf (shOf T e) + len * szOf (shOf T e) ≤ bsize w b := by
                rw [← Nat.add_mul]
                exact Nat.le_trans (Nat.mul_le_mul_right _ g4) hl
              have hnl := hrows.1
              rw [List.length_replicate] at hnl
              have hst := run_storeCells_cells (P := P) b (off * szOf (shOf T e)) _ 0 w (fun j hj => (hw.2 _ (by rw [hnl] at hj; omega)).2) (fun j hj => (hw.2 _ (by rw [hnl] at hj; omega)).1) (hrows.one i6)
              simp only [Nat.add_zero] at hst
              obtain ⟨m, rfl⟩ : ∃ m, len = m + 1 := ⟨len - 1, by omega⟩
              have hzs : zv.cells.size = szOf (shOf T e) := i5
              have hzcs : (Builtin.zeroCells zv.cells (m + 1)).toList = ((Array.range ((m + 1) * szOf (shOf T e))).map (zv.cells[· % zv.cells.size]!)).toList := by
                unfold Builtin.zeroCells
                rw [hzs]
              simp [Builtin.clear_, run_underlying hu, zeroValue, run_typeInfo w i1, i4, hzcs]
              simp at hst
              rw [hst]
              rfl
      · cases h
    · cases hx with
      | nil0 A => exact ⟨s, w, h, hI, by cases A <;> simp [Builtin.clear_, run_underlying hu]⟩
    · cases h
  · cases h
theorem run_append_zeros_none {P : Program} (w : World) (t tn ty e : TypeId) (i : TypeInfo) (k kn : IntKind) (ht : P.underlying t = some (.slice e)) (htn : P.underlying tn = some (.int kn)) (hi : P.info? e = some i) (A : Option Addr) :
    (Builtin.append_ #[t, tn] ty #[.slice A 0 0, .int k 0]).run P w = .ok (.slice A 0 0) w := by
  have hw : IntKind.i64.wrap 0 = 0 := by unfold IntKind.wrap; simp [IntKind.bits, IntKind.signed]
  cases A <;> simp [Builtin.append_, run_underlying ht, run_underlying htn, sizeOf, typeInfo, hi, asInt, asIntOf, hw, storeCells]
theorem evAppendZ_sound (hT : TabOk T P) (hFr : FrOk fr) (hI : Inv fr φ F s a w) {d : Option Tmp} {t tx : Nat} {x y : AVal} {vx vy : Value} {K : St → Option X} (h : evAppendZ T s d t tx x y K = some out) (hx : VRel w φ F fr.B x vx) (hy : VRel w φ F fr.B y vy) (ty : TypeId) :
    ∃ φ' s' w' v, K s' = some out ∧ Inv fr φ' F s' (a.put d v) w' ∧ (Builtin.append_ #[t, tx] ty #[vx, vy]).run P w = .ok v w' := by
  unfold evAppendZ at h
  split at h
  · next d e _ _ _ kn _ _ _ sh0 eq eqx =>
    obtain ⟨k, n, rfl, h2⟩ := asI_some h hy
    clear h
    split at h2
    · next z hz =>
      obtain ⟨g, h3⟩ := grd_some h2
      simp only [Bool.and_eq_true] at g
      obtain ⟨⟨g1, g2⟩, g4⟩ := g
      have g2 : d < 1000 := Nat.le_of_ble_eq_true g2
      obtain ⟨k1, h4⟩ := grd_some h3
      obtain ⟨k3, h5⟩ := grd_some h4
      have k1 := of_decide_eq_true k1
      have k3 := of_decide_eq_true k3
      obtain ⟨hn, h6⟩ := new_some h5
      obtain ⟨inf, zv, i1, i2, i3, i4, i5, i6, i7, i8, i9, i10⟩ := elemOk_spec hT g1
      have hu := hT.td t _ eq
      simp only [TDOk] at hu
      have hux := hT.td tx _ eqx
      simp only [TDOk] at hux
      have hzr : CRel w F z zv := closed_spec hI (fun _ h => h) hz (i8 w φ F fr.B) (fun nm hm => by rw [i9] at hm; simp at hm)
      obtain ⟨hzrow, _⟩ := fitSh_row g4 hzr
      obtain ⟨m, rfl⟩ : ∃ m : Nat, n = m := ⟨n.toNat, by omega⟩
      rw [Int.toNat_natCast] at h6
      have hb : m * bytesT T e ≤ 140737488355328 := by
        rw [← Int.natCast_mul] at k3
        omega
      cases hx with
      | nil0 A =>
        rcases Nat.eq_zero_or_pos m with h0 | h0
        · subst h0
          have hrun := run_append_zeros_none (P := P) w t tx ty e inf k kn hu hux i1 A
          obtain ⟨φ1, hI1, hloc, _, hφ1⟩ := hI.new (nm := [d]) hn (.row false (shOf T e) []) (.at_ none 0) (T := fun _ => False) (Stp.refl _ _) (fun _ hf _ => hf.elim) (fun b k e => by cases e) (fun cs b k e => by cases e)
            (fun φ' _ hself _ => ⟨i6, none, hself, (fun _ => rfl), (fun b e => by cases e)⟩) (okNm_small g2)
          have hI1 : Inv fr φ1 F ⟨s.tmps, insN ([d], .row false (shOf T e) []) s.nodes⟩ a w := hI1.perm (insN_perm _ _)
          exact ⟨φ1, _, w, _, h6, hI1.put (.osl hloc (.inl ⟨A, rfl, rfl, Nat.zero_le _⟩)) (some d), hrun⟩
        · have hb' : m * inf.bytes ≤ 140737488355328 := by rw [i3]; exact hb
          have hm1 : m ≤ 140737488355328 := by
            have : m * 1 ≤ m * inf.bytes := Nat.mul_le_mul_left _ i7
            omega
          have hrun := Go.Lib.run_append_grow_zeros (P := P) w t tx ty e inf zv k kn hu hux i1 i4 A 0 0 [] (by rw [i2]; exact firstCells_zero _ _ _ _) m h0 (by rw [i2]; exact i6) (by omega) (by omega) (by omega) (by rw [Nat.zero_add]; exact grow_fits h0 hb')
          have hrows := Rows.zeros i6 hzrow m
          have hzc : zv.cells.toList.toArray = zv.cells := by simp
          rw [hzc] at hrows
          have hge := grownCap_ge w (0 + m) 0 e
          have hsz : ((([] : List Value).toArray ++ Builtin.zeroCells zv.cells m) ++ Builtin.zeroCells zv.cells (grownCap w (0 + m) 0 e - (0 + m))).size = grownCap w (0 + m) 0 e * szOf (shOf T e) := by
            rw [Array.size_append, Array.size_append, size_zeroCells, size_zeroCells, i5, ← i5]
            simp only [List.size_toArray, List.length_nil, Nat.zero_add] at hge ⊢
            rw [← Nat.add_mul]
            congr 1
            omega
          obtain ⟨φ', hI'⟩ := Inv.layRow (fr := fr) (e := e) (cells := (([] : List Value).toArray ++ Builtin.zeroCells zv.cells m) ++ Builtin.zeroCells zv.cells (grownCap w (0 + m) 0 e - (0 + m))) hFr hI w.drew (Stp.drew w) rfl i6 hn g2 hrows (fun j u hu => by
              have hj := (List.getElem?_eq_some_iff.1 hu).1
              have hzz : Builtin.zeroCells zv.cells m = (Array.range (m * szOf (shOf T e))).map (zv.cells[· % zv.cells.size]!) := by
                unfold Builtin.zeroCells; rw [i5]
              rw [Array.getElem?_append_left (by rw [hzz]; simpa using hj)]
              rw [hzz]
              rw [Array.getElem?_toList] at hu
              rw [show ([] : List Value).toArray = #[] from rfl, Array.empty_append]
              exact hu) (by rw [hsz, List.length_replicate]; exact Nat.mul_le_mul_right _ (by omega)) (fun u hu => by
              rw [Array.toList_append, List.mem_append, Array.toList_append, List.mem_append] at hu
              rcases hu with (hu | hu) | hu
              · simp at hu
              · exact zeros_one (elemOk_one g1 w i8) (by omega) _ u hu
              · exact zeros_one (elemOk_one g1 w i8) (by omega) _ u hu) (n := m) (cap := grownCap w (0 + m) 0 e) (by simp) (by omega) (by rw [hsz]; exact Nat.le_refl _)
          rw [Nat.zero_add] at hrun hI'
          exact ⟨φ', _, _, _, h6, hI', hrun⟩
    · cases h2
  · cases h
theorem evAppendA_sound (hT : TabOk T P) (hFr : FrOk fr) (hI : Inv fr φ F s a w) {d : Option Tmp} {t tx : Nat} {x y : AVal} {vx vy : Value} {K : St → Option X} (h : evAppendA T s d t tx x y K = some out) (hx : VRel w φ F fr.B x vx) (hy : VRel w φ F fr.B y vy) (ty : TypeId) :
    ∃ φ' s' w' v, K s' = some out ∧ Inv fr φ' F s' (a.put d v) w' ∧ (Builtin.append_ #[t, tx] ty #[vx, vy]).run P w = .ok v w' := by
  unfold evAppendA at h
  cases e : isIntT T tx with
  | true => rw [e] at h; exact evAppendZ_sound hT hFr hI h hx hy ty
  | false => rw [e] at h; exact evAppend_sound hT hFr hI h hx hy ty
end
end Go.Proofs.YtlaojkheenobaaaDoorS
