/- Long heads: the law. -/
import Derived.Test.YtkkknhfbcflkfaaPk
namespace Go.Proofs.YtkkknhfbcflkfaaD
open Go Go.Proofs.YtkkknhfbcflkfaaS Go.Proofs
set_option linter.unusedVariables false
set_option linter.unusedSimpArgs false
section
variable {X : Type}
theorem bop_and (a : Int) (m : Nat) (hm : m < 9223372036854775808) : 0 ≤ bop .and .i64 a (m : Int) ∧ bop .and .i64 a (m : Int) ≤ m := by
  have h : (BitVec.ofInt 64 a &&& BitVec.ofInt 64 (m : Int)).toNat ≤ m := by
    rw [BitVec.toNat_and]
    refine Nat.le_trans Nat.and_le_right ?_
    rw [BitVec.toNat_ofInt]
    omega
  have e : bop .and .i64 a (m : Int) = IntKind.wrap .i64 (((BitVec.ofInt 64 a &&& BitVec.ofInt 64 (m : Int)).toNat : Nat) : Int) := rfl
  rw [e, wrap64 (by omega) (by omega)]
  omega
theorem and7' {x : Int} (h : 0 ≤ x ∧ x ≤ 255) : bop .and .i64 x 7 = x % 8 := by
  have := and_7 (c := x) (by omega)
  rw [wrap64 (by omega) (by omega)] at this
  exact this
theorem firstB {L r : Int} (hL : L = 1 ∨ L = 2 ∨ L = 3) (hr : 0 ≤ r ∧ r < 8) : IntKind.wrap .u8 (bop .or .i64 (bop .or .i64 224 (IntKind.wrap .i64 (L * 2 ^ 3))) r) = 224 + L * 8 + r := by
  have hr2 : r = 0 ∨ r = 1 ∨ r = 2 ∨ r = 3 ∨ r = 4 ∨ r = 5 ∨ r = 6 ∨ r = 7 := by omega
  rcases hL with rfl | rfl | rfl <;> rcases hr2 with rfl | rfl | rfl | rfl | rfl | rfl | rfl | rfl <;> rfl
def wideT (id : Int) (v : List Int) : TS := .cons 3 id v .nil .nil
theorem wide_row (id : Int) (v : List Int) : List.take 1 (List.drop 0 [CV.agg [CV.int .i64 3, CV.int .i64 id, CV.slc none (by8 v), CV.slc (some 4) []]]) = (wideT id v).row := rfl
/-- What the long head is read as. -/
theorem wide_rd {L : Nat} {r id : Int} {zs v : List Int} (hL : L = 1 ∨ L = 2 ∨ L = 3) (hr : 0 ≤ r ∧ r < 8) (hz : zs = List.replicate (L - 1) 0) (hid : 0 ≤ id ∧ id ≤ 255) (hv : v.length ≤ 200) (f : Nat) (hf : 2 ≤ f) :
    rdT f ((224 + (L : Int) * 8 + r) :: 0 :: id :: (zs ++ (v.length : Int) :: v)) (-1) 64 = (0, 63, wideT id v) := by
  obtain ⟨f, rfl⟩ : ∃ j, f = j + 2 := ⟨f - 2, by omega⟩
  have e1 : ids (224 + (L : Int) * 8 + r) = 2 := by unfold ids; omega
  have e2 : lens (224 + (L : Int) * 8 + r) = L := by unfold lens; omega
  have e3 : (224 + (L : Int) * 8 + r) / 64 = 3 := by omega
  have e4 : ln (224 + (L : Int) * 8 + r) (0 :: id :: (zs ++ (v.length : Int) :: v)) = v.length := by
    unfold ln
    rw [e1, e2, if_pos (by omega)]
    subst hz
    rcases hL with rfl | rfl | rfl
    · show num [(v.length : Int)] = _
      rw [num_one (by omega)]
    · show num [0, (v.length : Int)] = _
      rw [num_two (by omega) (by omega)]; omega
    · show num [0, 0, (v.length : Int)] = _
      rw [num_three (by omega) (by omega) (by omega)]; omega
  have e5 : List.drop (2 + L) (0 :: id :: (zs ++ (v.length : Int) :: v)) = v := by
    subst hz
    rcases hL with rfl | rfl | rfl <;> rfl
  have e6 : num (List.take 2 (0 :: id :: (zs ++ (v.length : Int) :: v))) = id := by
    show num [0, id] = _
    rw [num_two (by omega) hid.1]; omega
  have hzl : zs.length = L - 1 := by rw [hz, List.length_replicate]
  rw [rdT_cons, e1, e2, e3, e4, e5, e6, if_neg (by
      intro h
      rcases h with h | h
      · cases h
      · simp only [List.length_cons, List.length_append] at h; omega), if_neg (by decide), if_neg (by omega), Int.toNat_natCast, List.take_length, List.drop_length]
  rfl
abbrev WA (k : Nat) : f9_R := fun X => @f9 X k
theorem wide_end {k : Nat} (K : Bool → Option X) (rec : Int × List CV × Int × Nat × Int × List CV → Option X) (L : Nat) (r id : Int) (zs v : List Int) (hL : L = 1 ∨ L = 2 ∨ L = 3) (hr : 0 ≤ r ∧ r < 8) (hz : zs = List.replicate (L - 1) 0) (hid : 0 ≤ id ∧ id ≤ 255) (hv : v.length ≤ 200) (hb : Byt v) (hk : 6000000 < k) :
    f7_T1 (fun X => @f9 X k) (fun X => @f16 X k) (fun X => @f11 X k) (fun X => @f18 X k) k K rec (id, by8 v, (L : Int), ([224 + (L : Int) * 8 + r, 0, id] ++ zs).length, (L : Int), by8 ([224 + (L : Int) * 8 + r, 0, id] ++ zs)) = K true := by
  unfold f7_T1
  dsimp only
  have hzl : zs.length = L - 1 := by rw [hz, List.length_replicate]
  refine (bifF (decide_eq_false (by omega))).trans ?_
  have hw : IntKind.wrap .u8 ((List.length (by8 v) : Nat) : Int) = v.length := by rw [by8_length, wrapU8]; omega
  rw [hw]
  rw [show List.take 1 (List.drop 0 [CV.int .u8 (v.length : Int)]) = by8 [(v.length : Int)] from rfl, t8', by8_length, by8_length]
  refine (grdT (decide_eq_true (by simp; omega))).trans ?_
  refine (grdT (decide_eq_true (by simp; omega))).trans ?_
  rw [← by8_append, show ([224 + (L : Int) * 8 + r, 0, id] ++ zs).length + [(v.length : Int)].length = ([224 + (L : Int) * 8 + r, 0, id] ++ zs ++ [(v.length : Int)]).length by simp, t8', ← by8_append,
    show ([224 + (L : Int) * 8 + r, 0, id] ++ zs ++ [(v.length : Int)]).length + v.length = ([224 + (L : Int) * 8 + r, 0, id] ++ zs ++ [(v.length : Int)] ++ v).length by simp; omega, d8]
  generalize hB : [224 + (L : Int) * 8 + r, 0, id] ++ zs ++ [(v.length : Int)] ++ v = B
  have hBl : B.length = L + 3 + v.length := by rw [← hB]; simp; omega
  have hBb : Byt B := by
    rw [← hB]
    intro x hx
    simp only [List.mem_append, List.mem_cons, List.not_mem_nil, or_false] at hx
    rcases hx with ((hx | hx) | hx) | hx
    · rcases hx with rfl | rfl | rfl <;> omega
    · rw [hz] at hx; have := List.eq_of_mem_replicate hx; omega
    · omega
    · exact hb x hx
  refine (readT_eq _ B hBb (by omega) (by omega)).trans ?_
  have hrd : rdT (B.length + 1) B (-1) 64 = (0, 63, wideT id v) := by
    rw [show B = (224 + (L : Int) * 8 + r) :: 0 :: id :: (zs ++ (v.length : Int) :: v) by rw [← hB]; simp]
    exact wide_rd hL hr hz hid hv _ (by simp)
  dsimp only
  rw [hrd, wide_row]
  refine (bifF rfl).trans ?_
  have hrin : rin (wideT id v) (-1) = true := by
    unfold wideT
    unfold rin
    rw [if_neg (by simp [inK]; omega), if_pos (.inr rfl), if_neg (by simp)]
    rfl
  have hright : rightB (wideT id v) = true := by
    unfold rightB
    rw [hrin]; rfl
  have hfit : (wideT id v).fit := ⟨by omega, hb, trivial, trivial⟩
  have hok : (wideT id v).ok := ⟨by omega, by simp [TS.len], trivial, trivial⟩
  have hsz : (wideT id v).sz = v.length + 3 := by simp only [wideT, TS.sz]; omega
  have hln : (wideT id v).len = 1 := rfl
  have hwr : wr (wideT id v) = (0, hdB 3 id v.length ++ v ++ []) := by
    have := wr_mk 3 id v .nil .nil rfl (by show v.length ≤ 65535; omega) rfl
    exact this
  refine (writeT_eq _ (wideT id v) (by omega) (by omega) hok).trans ?_
  have hwt : wrT (wideT id v) = wr (wideT id v) := by unfold wrT; rw [if_pos hright]
  rw [hwt]
  dsimp only
  rw [d8]
  refine (readT_wr _ (wideT id v) hright (by rw [hwr]) hfit (by omega)).trans ?_
  refine (bifT rfl).trans ?_
  refine (bifT (by rw [hwr]; rfl)).trans ?_
  refine (bifT rfl).trans ?_
  dsimp only
  rw [tk_row]
  refine (refSame_eq (k := k) _ (wideT id v) (wideT id v) (by omega) (by omega) hok hfit).trans ?_
  refine (bifT (decide_eq_true rfl)).trans ?_
  congr 1
  refine decide_eq_true ?_
  rw [hwr]
  have h1 := tailB_len id
  have h2 := tailB_len (v.length : Int)
  have : (hdB 3 id v.length).length ≤ 3 := by
    unfold hdB
    simp only [List.length_append, List.length_singleton]
    rw [if_neg (by omega)] at h1 h2
    split
    · simp only [List.length_nil]; omega
    · omega
  simp only [List.length_append, List.length_nil]
  omega
theorem wide_step {k : Nat} (K : Bool → Option X) (rec : Int × List CV × Int × Nat × Int × List CV → Option X) (L i : Nat) (id : Int) (P v : List Int) (hi : i < L) (hL : L ≤ 3) (hP : P.length ≤ 100) :
    f7_T1 (fun X => @f9 X k) (fun X => @f16 X k) (fun X => @f11 X k) (fun X => @f18 X k) k K rec (id, by8 v, (L : Int), P.length, (i : Int), by8 P) = rec (id, by8 v, (L : Int), (P ++ [0]).length, ((i + 1 : Nat) : Int), by8 (P ++ [0])) := by
  unfold f7_T1
  dsimp only
  refine (bifT (decide_eq_true (by omega))).trans ?_
  refine (grdT (decide_eq_true (by simp; omega))).trans ?_
  rw [wrap64_n (by omega), t8', List.length_append, by8_append]
  rfl
theorem wide_eq {k : Nat} (K : Bool → Option X) (x0 x2 : Int) (v : List Int) (hb : Byt v) (hk : 7000000 < k) : f7 k K x0 (by8 v) x2 = K true := by
  unfold f7 f7_A f7_T
  refine (alive_eq _ (by omega)).trans ?_
  refine (bifF rfl).trans ?_
  by_cases h : v.length > 200
  · exact bifT (decide_eq_true (by rw [by8_length]; omega))
  refine (bifF (decide_eq_false (by rw [by8_length]; omega))).trans ?_
  have hid := bop_and x0 255 (by decide)
  have h2 := bop_and x2 1023 (by decide)
  rw [show ((255 : Nat) : Int) = 255 from rfl] at hid
  rw [show ((1023 : Nat) : Int) = 1023 from rfl] at h2
  rw [Int.tmod_eq_emod_of_nonneg h2.1]
  generalize bop .and .i64 x0 255 = id at hid ⊢
  generalize bop .and .i64 x2 1023 = y at h2 ⊢
  have hy : IntKind.wrap .i64 (1 + y % 3) = 1 + y % 3 := wrap64 (by omega) (by omega)
  rw [hy]
  obtain ⟨L, hL⟩ : ∃ L : Nat, 1 + y % 3 = L := ⟨(1 + y % 3).toNat, by omega⟩
  rw [hL]
  have hL3 : L = 1 ∨ L = 2 ∨ L = 3 := by omega
  rw [and7' ⟨hid.1, hid.2⟩, firstB (by omega) (by omega), show IntKind.wrap .u8 id = id by rw [wrapU8]; omega]
  rw [show [CV.int IntKind.u8 (224 + (L : Int) * 8 + id % 8), CV.int IntKind.u8 0, CV.int IntKind.u8 id] = by8 [224 + (L : Int) * 8 + id % 8, 0, id] from rfl]
  obtain ⟨k, rfl⟩ : ∃ j, k = j + 3 := ⟨k - 3, by omega⟩
  have ends := fun (zs : List Int) (rec : Int × List CV × Int × Nat × Int × List CV → Option X) (hz : zs = List.replicate (L - 1) 0) => wide_end (k := k + 3) K rec L (id % 8) id zs v hL3 (by omega) hz ⟨hid.1, hid.2⟩ (by omega) hb (by omega)
  have steps := fun (i : Nat) (P : List Int) (rec : Int × List CV × Int × Nat × Int × List CV → Option X) (hi : i < L) (hP : P.length ≤ 100) => wide_step (k := k + 3) K rec L i id P v hi (by omega) hP
  rcases hL3 with rfl | rfl | rfl
  · refine (iterV_one _ _ _).trans ?_
    exact ends [] _ rfl
  · refine (iterV_one _ _ _).trans ?_
    refine (steps 1 [224 + ((2 : Nat) : Int) * 8 + id % 8, 0, id] _ (by omega) (by simp)).trans ?_
    refine (iterV_one _ _ _).trans ?_
    exact ends [0] _ rfl
  · refine (iterV_one _ _ _).trans ?_
    refine (steps 1 [224 + ((3 : Nat) : Int) * 8 + id % 8, 0, id] _ (by omega) (by simp)).trans ?_
    refine (iterV_one _ _ _).trans ?_
    refine (steps 2 ([224 + ((3 : Nat) : Int) * 8 + id % 8, 0, id] ++ [0]) _ (by omega) (by simp)).trans ?_
    refine (iterV_one _ _ _).trans ?_
    exact ends [0, 0] _ rfl
theorem law_wide (x0 : Int) (w0 : (Lit.int .i64 x0).wf = true) (x1 : List Int) (w1 : x1.length ≤ maxLen ∧ ∀ y ∈ x1, (Lit.int .u8 y).wf = true) (x2 : Int) (w2 : (Lit.int .i64 x2).wf = true) : ∃ k, ∀ K : Bool → Option Out, f7 k K x0 (x1.map fun y => .int .u8 y) x2 = K true :=
  ⟨7000001, fun K => wide_eq K x0 x2 x1 (byt_wf w1.2) (by omega)⟩
end
end Go.Proofs.YtkkknhfbcflkfaaD
