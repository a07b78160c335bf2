/- The digest: words, the spread of a block, a block turned. -/
import Derived.Test.YtlaojkheenobaaaDoorD
import Derived.Test.YtlaojkheenobaaaDoorPM
namespace Go.Proofs.YtlaojkheenobaaaDoorD
open Go Go.Proofs.YtlaojkheenobaaaDoorS Go.Proofs
set_option linter.unusedVariables false
set_option linter.unusedSimpArgs false
section
variable {X : Type}
theorem bAt {α β : Type} {o : Option α} {a : α} (h : o = some a) (f : α → Option β) : Option.bind o f = f a := by rw [h]; rfl
theorem step {α β : Type} (a : α) (f : α → Option β) : Option.bind (some a) f = f a := rfl
def w32 (ws : List Int) : List CV := ws.map (CV.int .u32)
theorem w32_length (ws : List Int) : (w32 ws).length = ws.length := by simp [w32]
theorem w32_get (ws : List Int) (i : Nat) : (w32 ws)[i]? = ws[i]?.map (CV.int .u32) := by simp [w32]
theorem w32_set (ws : List Int) (i : Nat) (n : Int) : (w32 ws).set i (CV.int .u32 n) = w32 (ws.set i n) := by simp [w32, List.map_set]
theorem w32_take (ws : List Int) (n : Nat) : (w32 ws).take n = w32 (ws.take n) := by simp [w32, List.map_take]
theorem w32_at {ws : List Int} {i : Nat} (h : i < ws.length) : (w32 ws)[i]? = some (CV.int .u32 (ws.getD i 0)) := by
  rw [w32_get, List.getElem?_eq_getElem h, List.getD_eq_getElem?_getD, List.getElem?_eq_getElem h]; rfl
theorem by8_at {bs : List Int} {i : Nat} (h : i < bs.length) : (by8 bs)[i]? = some (CV.int .u8 (bs.getD i 0)) := by
  rw [by8_get, List.getElem?_eq_getElem h, List.getD_eq_getElem?_getD, List.getElem?_eq_getElem h]; rfl
theorem getD_byt {bs : List Int} (h : Byt bs) (i : Nat) : 0 ≤ bs.getD i 0 ∧ bs.getD i 0 < 256 := by
  rw [List.getD_eq_getElem?_getD]
  cases e : bs[i]? with
  | none => exact ⟨Int.le_refl 0, by decide⟩
  | some b => exact h b (List.mem_of_getElem? e)
/-- A word turned to the right. -/
def rr (x : Int) (n : Nat) : Int := bop .or .u32 (IntKind.wrap .u32 (x * 2 ^ (32 - n))) (Int.fdiv x (2 ^ n))
theorem or_comm32 (a b : Int) : bop .or .u32 a b = bop .or .u32 b a := by
  show IntKind.wrap .u32 (((BitVec.ofInt 32 a ||| BitVec.ofInt 32 b).toNat : Nat) : Int) = IntKind.wrap .u32 (((BitVec.ofInt 32 b ||| BitVec.ofInt 32 a).toNat : Nat) : Int)
  rw [BitVec.or_comm]
theorem bop_or32 {a b : Nat} (ha : a < 2 ^ 32) (hb : b < 2 ^ 32) : bop .or .u32 (a : Int) (b : Int) = ((a ||| b : Nat) : Int) := by
  show IntKind.wrap .u32 (((BitVec.ofInt 32 (a : Int) ||| BitVec.ofInt 32 (b : Int)).toNat : Nat) : Int) = _
  rw [BitVec.toNat_or, ofInt_toNat, ofInt_toNat, Nat.mod_eq_of_lt (by omega), Nat.mod_eq_of_lt (by omega), wrapU32]
  have := Nat.or_lt_two_pow ha hb
  omega
section
variable (k : Nat) (K : Int → Option X) (x : Int)
theorem right2 : f32 k K x 2 = K (rr x 2) := by kernel_rfl
theorem right6 : f32 k K x 6 = K (rr x 6) := by kernel_rfl
theorem right7 : f32 k K x 7 = K (rr x 7) := by kernel_rfl
theorem right11 : f32 k K x 11 = K (rr x 11) := by kernel_rfl
theorem right13 : f32 k K x 13 = K (rr x 13) := by kernel_rfl
theorem right17 : f32 k K x 17 = K (rr x 17) := by kernel_rfl
theorem right18 : f32 k K x 18 = K (rr x 18) := by kernel_rfl
theorem right19 : f32 k K x 19 = K (rr x 19) := by kernel_rfl
theorem right22 : f32 k K x 22 = K (rr x 22) := by kernel_rfl
theorem right25 : f32 k K x 25 = K (rr x 25) := by kernel_rfl
end
/-- The word at place j of a block's bytes. -/
def byW (bs : List Int) (j : Nat) : Int := ((bs.getD (4 * j) 0 * 16777216 + bs.getD (4 * j + 1) 0 * 65536) + bs.getD (4 * j + 2) 0 * 256) + bs.getD (4 * j + 3) 0
/-- A later word of the spread. -/
def spW (ws : List Int) (i : Nat) : Int :=
  IntKind.wrap .u32 (IntKind.wrap .u32 (IntKind.wrap .u32 (ws.getD (i - 16) 0 + bop .xor .u32 (bop .xor .u32 (rr (ws.getD (i - 15) 0) 7) (rr (ws.getD (i - 15) 0) 18)) (Int.fdiv (ws.getD (i - 15) 0) (2 ^ 3))) + ws.getD (i - 7) 0)
    + bop .xor .u32 (bop .xor .u32 (rr (ws.getD (i - 2) 0) 17) (rr (ws.getD (i - 2) 0) 19)) (Int.fdiv (ws.getD (i - 2) 0) (2 ^ 10)))
def spread (bs : List Int) : Nat → List Int
  | 0 => List.replicate 64 0
  | i + 1 => (spread bs i).set i (if i < 16 then byW bs i else spW (spread bs i) i)
theorem spread_length (bs : List Int) : ∀ i, (spread bs i).length = 64
  | 0 => by simp [spread]
  | i + 1 => by simp [spread, spread_length bs i]
/-- Four bytes, put together bit by bit. -/
theorem word_or {a b c d : Int} (ha : 0 ≤ a ∧ a < 256) (hb : 0 ≤ b ∧ b < 256) (hc : 0 ≤ c ∧ c < 256) (hd : 0 ≤ d ∧ d < 256) :
    bop .or .u32 (bop .or .u32 (bop .or .u32 (IntKind.wrap .u32 (IntKind.wrap .u32 a * 2 ^ 24)) (IntKind.wrap .u32 (IntKind.wrap .u32 b * 2 ^ 16))) (IntKind.wrap .u32 (IntKind.wrap .u32 c * 2 ^ 8))) (IntKind.wrap .u32 d) = ((a * 16777216 + b * 65536) + c * 256) + d := by
  obtain ⟨a, rfl⟩ := Int.eq_ofNat_of_zero_le ha.1
  obtain ⟨b, rfl⟩ := Int.eq_ofNat_of_zero_le hb.1
  obtain ⟨c, rfl⟩ := Int.eq_ofNat_of_zero_le hc.1
  obtain ⟨d, rfl⟩ := Int.eq_ofNat_of_zero_le hd.1
  have e1 : IntKind.wrap .u32 (IntKind.wrap .u32 (a : Int) * 2 ^ 24) = ((a * 2 ^ 24 : Nat) : Int) := by rw [wrapU32, wrapU32]; omega
  have e2 : IntKind.wrap .u32 (IntKind.wrap .u32 (b : Int) * 2 ^ 16) = ((b * 2 ^ 16 : Nat) : Int) := by rw [wrapU32, wrapU32]; omega
  have e3 : IntKind.wrap .u32 (IntKind.wrap .u32 (c : Int) * 2 ^ 8) = ((c * 2 ^ 8 : Nat) : Int) := by rw [wrapU32, wrapU32]; omega
  have e4 : IntKind.wrap .u32 (d : Int) = (d : Int) := by rw [wrapU32]; omega
  rw [e1, e2, e3, e4, bop_or32 (by omega) (by omega)]
  have o1 : (a * 2 ^ 24 ||| b * 2 ^ 16) = a * 2 ^ 24 + b * 2 ^ 16 := or_add (by omega)
  rw [o1, bop_or32 (by omega) (by omega)]
  have o2 : ((a * 2 ^ 24 + b * 2 ^ 16) ||| c * 2 ^ 8) = (a * 2 ^ 24 + b * 2 ^ 16) + c * 2 ^ 8 := by
    have : a * 2 ^ 24 + b * 2 ^ 16 = (a * 2 ^ 8 + b) * 2 ^ 16 := by omega
    rw [this]; exact or_add (by omega)
  rw [o2, bop_or32 (by omega) (by omega)]
  have o3 : ((a * 2 ^ 24 + b * 2 ^ 16 + c * 2 ^ 8) ||| d) = (a * 2 ^ 24 + b * 2 ^ 16 + c * 2 ^ 8) + d := by
    have : a * 2 ^ 24 + b * 2 ^ 16 + c * 2 ^ 8 = (a * 2 ^ 16 + b * 2 ^ 8 + c) * 2 ^ 8 := by omega
    rw [this]; exact or_add (by omega)
  rw [o3]
  omega
end
end Go.Proofs.YtlaojkheenobaaaDoorD
/- The digest: the spread of a block. -/
namespace Go.Proofs.YtlaojkheenobaaaDoorD
open Go Go.Proofs.YtlaojkheenobaaaDoorS Go.Proofs
set_option linter.unusedVariables false
set_option linter.unusedSimpArgs false
section
variable {X : Type}
/-- A row in which a block's bytes stand behind eight words. -/
def Blk (blk : List Int) (row : List CV) : Prop := ∀ j, j < 64 → row[0 + (8 + j * 1)]? = some (CV.int .u8 (blk.getD j 0))
theorem toNat_cast (n : Nat) : Int.toNat (n : Int) = n := rfl
theorem spread_lo {k : Nat} (K : List CV × List CV → Option X) (rec) {blk : List Int} {row : List CV} (hB : Blk blk row) (hb : Byt blk) (A : List CV) (i : Nat) (hi : i < 16) :
    f31_T1 (fun X => @f32 X k) k K rec ((i : Int), A, w32 (spread blk i), row) = rec (((i + 1 : Nat) : Int), A, w32 (spread blk (i + 1)), row) := by
  unfold f31_T1
  have e0 : IntKind.wrap .i64 (4 * (i : Int)) = ((4 * i : Nat) : Int) := by rw [wrap64 (by omega) (by omega)]; omega
  have e1 : IntKind.wrap .i64 (((4 * i : Nat) : Int) + 1) = ((4 * i + 1 : Nat) : Int) := by rw [wrap64 (by omega) (by omega)]; omega
  have e2 : IntKind.wrap .i64 (((4 * i : Nat) : Int) + 2) = ((4 * i + 2 : Nat) : Int) := by rw [wrap64 (by omega) (by omega)]; omega
  have e3 : IntKind.wrap .i64 (((4 * i : Nat) : Int) + 3) = ((4 * i + 3 : Nat) : Int) := by rw [wrap64 (by omega) (by omega)]; omega
  refine (bifT (decide_eq_true (by omega : (i : Int) < 64))).trans ?_
  refine (bifT (decide_eq_true (by omega : (i : Int) < 16))).trans ?_
  simp only [e0, e1, e2, e3, toNat_cast]
  refine (grdT (decide_eq_true (by omega))).trans ?_
  refine (grdT (decide_eq_true (by omega))).trans ?_
  refine (bAt (hB (4 * i) (by omega)) _).trans ?_
  refine (grdT (isI_int _ _)).trans ?_
  refine (grdT (decide_eq_true (by omega))).trans ?_
  refine (grdT (decide_eq_true (by omega))).trans ?_
  refine (bAt (hB (4 * i + 1) (by omega)) _).trans ?_
  refine (grdT (isI_int _ _)).trans ?_
  refine (grdT (decide_eq_true (by omega))).trans ?_
  refine (grdT (decide_eq_true (by omega))).trans ?_
  refine (bAt (hB (4 * i + 2) (by omega)) _).trans ?_
  refine (grdT (isI_int _ _)).trans ?_
  refine (grdT (decide_eq_true (by omega))).trans ?_
  refine (grdT (decide_eq_true (by omega))).trans ?_
  refine (bAt (hB (4 * i + 3) (by omega)) _).trans ?_
  refine (grdT (isI_int _ _)).trans ?_
  refine (grdT (decide_eq_true (by omega))).trans ?_
  refine (grdT (decide_eq_true (by omega))).trans ?_
  refine (grdT (decide_eq_true (by rw [w32_length, spread_length]; omega))).trans ?_
  unfold f31_J1
  simp only [toI_int]
  rw [word_or (getD_byt hb _) (getD_byt hb _) (getD_byt hb _) (getD_byt hb _), w32_set, wrap64_s (by omega)]
  have es : 0 + (0 + i * 1) = i := by omega
  rw [es, show spread blk (i + 1) = (spread blk i).set i (byW blk i) from by rw [spread, if_pos hi]]
  rfl
theorem spread_hi {k : Nat} (K : List CV × List CV → Option X) (rec) {blk : List Int} {row : List CV} (A : List CV) (i : Nat) (hi : 16 ≤ i) (hl : i < 64) :
    f31_T1 (fun X => @f32 X k) k K rec ((i : Int), A, w32 (spread blk i), row) = rec (((i + 1 : Nat) : Int), A, w32 (spread blk (i + 1)), row) := by
  unfold f31_T1
  have e0 : IntKind.wrap .i64 ((i : Int) - 15) = ((i - 15 : Nat) : Int) := by rw [wrap64 (by omega) (by omega)]; omega
  have e1 : IntKind.wrap .i64 ((i : Int) - 2) = ((i - 2 : Nat) : Int) := by rw [wrap64 (by omega) (by omega)]; omega
  have e2 : IntKind.wrap .i64 ((i : Int) - 16) = ((i - 16 : Nat) : Int) := by rw [wrap64 (by omega) (by omega)]; omega
  have e3 : IntKind.wrap .i64 ((i : Int) - 7) = ((i - 7 : Nat) : Int) := by rw [wrap64 (by omega) (by omega)]; omega
  have hw : ∀ j, j < 64 → (w32 (spread blk i))[0 + (0 + j * 1)]? = some (CV.int .u32 ((spread blk i).getD j 0)) := fun j hj => by
    have : 0 + (0 + j * 1) = j := by omega
    rw [this]
    exact w32_at (by rw [spread_length]; exact hj)
  refine (bifT (decide_eq_true (by omega : (i : Int) < 64))).trans ?_
  refine (bifF (decide_eq_false (by omega : ¬ (i : Int) < 16))).trans ?_
  simp only [e0, e1, e2, e3, toNat_cast]
  refine (grdT (decide_eq_true (by omega))).trans ?_
  refine (grdT (decide_eq_true (by omega))).trans ?_
  refine (bAt (hw (i - 15) (by omega)) _).trans ?_
  refine (grdT (isI_int _ _)).trans ?_
  refine (grdT (decide_eq_true (by omega))).trans ?_
  refine (grdT (decide_eq_true (by omega))).trans ?_
  refine (bAt (hw (i - 2) (by omega)) _).trans ?_
  refine (grdT (isI_int _ _)).trans ?_
  simp only [toI_int]
  refine (right7 _ _ _).trans ?_
  refine (right18 _ _ _).trans ?_
  refine (right17 _ _ _).trans ?_
  refine (right19 _ _ _).trans ?_
  refine (grdT (decide_eq_true (by omega))).trans ?_
  refine (grdT (decide_eq_true (by omega))).trans ?_
  refine (bAt (hw (i - 16) (by omega)) _).trans ?_
  refine (grdT (isI_int _ _)).trans ?_
  refine (grdT (decide_eq_true (by omega))).trans ?_
  refine (grdT (decide_eq_true (by omega))).trans ?_
  refine (bAt (hw (i - 7) (by omega)) _).trans ?_
  refine (grdT (isI_int _ _)).trans ?_
  refine (grdT (decide_eq_true (by omega))).trans ?_
  refine (grdT (decide_eq_true (by omega))).trans ?_
  refine (grdT (decide_eq_true (by rw [w32_length, spread_length]; omega))).trans ?_
  unfold f31_J1
  simp only [toI_int]
  rw [w32_set, wrap64_s (by omega)]
  have es : 0 + (0 + i * 1) = i := by omega
  rw [es, show spread blk (i + 1) = (spread blk i).set i (spW (spread blk i) i) from by rw [spread, if_neg (by omega)]]
  rfl
theorem spread_eq {k : Nat} (hk : 64 < k) (K : List CV × List CV → Option X) {blk : List Int} {row : List CV} (hB : Blk blk row) (hb : Byt blk) : f31 k K row = K (w32 (spread blk 64), row) := by
  unfold f31 f31_A f31_T
  refine iterV_spec (fun i => ((i : Int), List.replicate 64 (CV.int .u32 0), w32 (spread blk i), row)) (fun _ => K (w32 (spread blk 64), row)) 64 (fun i rec hi hr => ?_) (fun rec => ?_) k 0 (by omega) (by omega)
  · refine Eq.trans ?_ hr
    rcases Nat.lt_or_ge i 16 with h | h
    · exact spread_lo K rec hB hb _ i h
    · exact spread_hi K rec _ i h hi
  · unfold f31_L1 f31_T1
    have hl : (w32 (spread blk 64)).length = 64 := by rw [w32_length, spread_length]
    generalize w32 (spread blk 64) = W at hl ⊢
    refine (bifF rfl).trans ?_
    refine (grdT (decide_eq_true (by rw [hl]; omega))).trans ?_
    have et : List.take 64 (List.drop 0 W) = W := by rw [List.drop_zero, take_all _ _ (by omega)]
    simp only [et]
    refine (grdT (by rw [hl]; rfl)).trans ?_
    refine (grdT (decide_eq_true (by simp))).trans ?_
    have e2 : List.take 0 (List.replicate 64 (CV.int .u32 0)) ++ W ++ List.drop 64 (List.replicate 64 (CV.int .u32 0)) = W := by simp
    simp only [e2]
    refine (grdT (decide_eq_true (by rw [hl]; omega))).trans ?_
    rw [et]
end
end Go.Proofs.YtlaojkheenobaaaDoorD
/- The digest: a block is turned. -/
namespace Go.Proofs.YtlaojkheenobaaaDoorD
open Go Go.Proofs.YtlaojkheenobaaaDoorS Go.Proofs
set_option linter.unusedVariables false
set_option linter.unusedSimpArgs false
section
variable {X : Type}
/-- The rounds' constants. -/
def kw : List Int := tab1.map CV.toI
theorem kw_w32 : w32 kw = tab1 := by kernel_rfl
theorem kw_length : kw.length = 64 := by kernel_rfl
theorem kw_at {i : Nat} (h : i < 64) : CV.cell (CV.agg tab1) (0 + i * 1) = some (CV.int .u32 (kw.getD i 0)) := by
  have e : 0 + i * 1 = i := by omega
  rw [cell_agg, ← kw_w32, e]
  exact w32_at (by rw [kw_length]; exact h)
/-- A round. -/
def T1of (kt wt e f g h : Int) : Int :=
  IntKind.wrap .u32 (IntKind.wrap .u32 (IntKind.wrap .u32 (IntKind.wrap .u32 (h + bop .xor .u32 (bop .xor .u32 (rr e 6) (rr e 11)) (rr e 25)) + bop .xor .u32 (bop .and .u32 e f) (bop .and .u32 (bop .xor .u32 4294967295 e) g)) + kt) + wt)
def T2of (a b c : Int) : Int :=
  IntKind.wrap .u32 (bop .xor .u32 (bop .xor .u32 (rr a 2) (rr a 13)) (rr a 22) + bop .xor .u32 (bop .xor .u32 (bop .and .u32 a b) (bop .and .u32 a c)) (bop .and .u32 b c))
def rnd (kt wt : Int) : List Int → List Int
  | [a, b, c, d, e, f, g, h] => [IntKind.wrap .u32 (T1of kt wt e f g h + T2of a b c), a, b, c, IntKind.wrap .u32 (d + T1of kt wt e f g h), e, f, g]
  | v => v
theorem len8 {v : List Int} (h : v.length = 8) : ∃ a b c d e f g i, v = [a, b, c, d, e, f, g, i] := by
  match v, h with
  | [a, b, c, d, e, f, g, i], _ => exact ⟨a, b, c, d, e, f, g, i, rfl⟩
theorem rnd_length {kt wt : Int} {v : List Int} (h : v.length = 8) : (rnd kt wt v).length = 8 := by
  obtain ⟨a, b, c, d, e, f, g, i, rfl⟩ := len8 h
  rfl
def rnds (W hs : List Int) : Nat → List Int
  | 0 => hs
  | i + 1 => rnd (kw.getD i 0) (W.getD i 0) (rnds W hs i)
theorem rnds_length {W hs : List Int} (h : hs.length = 8) : ∀ i, (rnds W hs i).length = 8
  | 0 => h
  | i + 1 => rnd_length (rnds_length h i)
def addUp (hs v : List Int) : Nat → List Int
  | 0 => hs
  | i + 1 => (addUp hs v i).set i (IntKind.wrap .u32 ((addUp hs v i).getD i 0 + v.getD i 0))
theorem addUp_length {hs v : List Int} : ∀ i, (addUp hs v i).length = hs.length
  | 0 => rfl
  | i + 1 => by simp [addUp, addUp_length i]
/-- What becomes of the eight words. -/
def comp (hs blk : List Int) : List Int := addUp hs (rnds (spread blk 64) hs 64) 8
theorem comp_length {hs blk : List Int} (h : hs.length = 8) : (comp hs blk).length = 8 := by unfold comp; rw [addUp_length, h]
section
variable {k : Nat} (K : List CV → Option X)
theorem turn_add (hk : 8 < k) {hs V : List Int} (hh : hs.length = 8) (hv : V.length = 8) (rest : List CV) :
    iterV (f26_L2 (fun X => @f31 X k) (fun X => @f32 X k) k K) k (w32 V, 0, w32 hs ++ rest) = K (w32 (addUp hs V 8) ++ rest) := by
  refine iterV_spec (fun i => (w32 V, (i : Int), w32 (addUp hs V i) ++ rest)) (fun _ => K (w32 (addUp hs V 8) ++ rest)) 8 (fun i rec hi hr => ?_) (fun rec => ?_) k 0 (by omega) (by omega)
  · refine Eq.trans ?_ hr
    unfold f26_L2 f26_T2
    have hl : (w32 (addUp hs V i)).length = 8 := by rw [w32_length, addUp_length, hh]
    have es : 0 + (0 + i * 1) = i := by omega
    refine (bifT (decide_eq_true (by omega : (i : Int) < 8))).trans ?_
    simp only [toNat_cast, es]
    refine (grdT (decide_eq_true (by omega))).trans ?_
    refine (grdT (decide_eq_true (by omega))).trans ?_
    refine (bAt (w32_at (by omega)) _).trans ?_
    refine (grdT (isI_int _ _)).trans ?_
    refine (grdT (decide_eq_true (by omega))).trans ?_
    refine (grdT (decide_eq_true (by omega))).trans ?_
    refine (bAt ((List.getElem?_append_left (by omega)).trans (w32_at (by rw [addUp_length]; omega))) _).trans ?_
    refine (grdT (isI_int _ _)).trans ?_
    refine (grdT (decide_eq_true (by omega))).trans ?_
    refine (grdT (decide_eq_true (by omega))).trans ?_
    refine (grdT (decide_eq_true (by rw [List.length_append, hl]; omega))).trans ?_
    simp only [toI_int]
    rw [List.set_append_left _ _ (by omega), w32_set, wrap64_s (by omega)]
    rfl
  · unfold f26_L2 f26_T2
    exact bifF rfl
theorem turn_round {k : Nat} {K : List CV → Option X} (L2 : List CV × Int × List CV → Option X) (rec) {W v : List Int} (hv : v.length = 8) (hW : W.length = 64) (row : List CV) (i : Nat) (hi : i < 64) :
    f26_T1 (fun X => @f31 X k) (fun X => @f32 X k) k K L2 rec ((i : Int), w32 W, w32 v, row) = rec (((i + 1 : Nat) : Int), w32 W, w32 (rnd (kw.getD i 0) (W.getD i 0) v), row) := by
  obtain ⟨a, b, c, d, e, f, g, h, rfl⟩ := len8 hv
  unfold f26_T1
  have es : 0 + (0 + i * 1) = i := by omega
  refine (bifT (decide_eq_true (by omega : (i : Int) < 64))).trans ?_
  refine (step (CV.int .u32 a) _).trans ?_
  refine (grdT (isI_int _ _)).trans ?_
  refine (step (CV.int .u32 b) _).trans ?_
  refine (grdT (isI_int _ _)).trans ?_
  refine (step (CV.int .u32 c) _).trans ?_
  refine (grdT (isI_int _ _)).trans ?_
  refine (step (CV.int .u32 e) _).trans ?_
  refine (grdT (isI_int _ _)).trans ?_
  refine (step (CV.int .u32 f) _).trans ?_
  refine (grdT (isI_int _ _)).trans ?_
  refine (step (CV.int .u32 g) _).trans ?_
  refine (grdT (isI_int _ _)).trans ?_
  refine (step (CV.int .u32 h) _).trans ?_
  refine (grdT (isI_int _ _)).trans ?_
  refine (right6 _ _ _).trans ?_
  refine (right11 _ _ _).trans ?_
  refine (right25 _ _ _).trans ?_
  refine (grdT (decide_eq_true (by omega))).trans ?_
  refine (grdT (decide_eq_true (by omega))).trans ?_
  refine (bAt (kw_at hi) _).trans ?_
  refine (grdT (isI_int _ _)).trans ?_
  refine (grdT (decide_eq_true (by omega))).trans ?_
  refine (grdT (decide_eq_true (by omega))).trans ?_
  refine (bAt (a := CV.int .u32 (W.getD i 0)) (by simp only [toNat_cast, es]; exact w32_at (by omega)) _).trans ?_
  refine (grdT (isI_int _ _)).trans ?_
  refine (right2 _ _ _).trans ?_
  refine (right13 _ _ _).trans ?_
  refine (right22 _ _ _).trans ?_
  refine (grdT rfl).trans ?_
  refine (grdT rfl).trans ?_
  refine (grdT rfl).trans ?_
  refine (step (CV.int .u32 d) _).trans ?_
  refine (grdT (isI_int _ _)).trans ?_
  refine (grdT rfl).trans ?_
  refine (grdT rfl).trans ?_
  simp only [toI_int]
  rw [wrap64_s (by omega)]
  rfl
theorem turn_eq (hk : 64 < k) {hs blk : List Int} (hh : hs.length = 8) (rest : List CV) (hB : Blk blk (w32 hs ++ rest)) (hb : Byt blk) : f26 k K (w32 hs ++ rest) = K (w32 (comp hs blk) ++ rest) := by
  unfold f26 f26_A f26_T
  refine (spread_eq hk _ hB hb).trans ?_
  have hW : (spread blk 64).length = 64 := spread_length blk 64
  unfold comp
  generalize spread blk 64 = W at hW ⊢
  have hwl : (w32 W).length = 64 := by rw [w32_length, hW]
  have hhl : (w32 hs).length = 8 := by rw [w32_length, hh]
  have et : List.take 8 (List.drop 0 (w32 hs ++ rest)) = w32 hs := by rw [List.drop_zero]; exact take_app_len _ _ _ hhl
  refine (grdT (by rw [hwl]; rfl)).trans ?_
  refine (grdT rfl).trans ?_
  refine (grdT (decide_eq_true (by rw [List.length_append, hhl]; omega))).trans ?_
  simp only [et]
  refine (grdT (by rw [hhl]; rfl)).trans ?_
  refine (grdT rfl).trans ?_
  have e1 : List.take 0 (List.replicate 64 (CV.int .u32 0)) ++ w32 W ++ List.drop 64 (List.replicate 64 (CV.int .u32 0)) = w32 W := by simp
  have e2 : ∀ z : List CV, z.length = 8 → List.take 0 z ++ w32 hs ++ List.drop 8 z = w32 hs := fun z hz => by
    rw [List.take_zero, List.nil_append, List.drop_of_length_le (by omega), List.append_nil]
  rw [e1, e2 _ rfl]
  refine iterV_spec (fun i => ((i : Int), w32 W, w32 (rnds W hs i), w32 hs ++ rest)) (fun _ => K (w32 (addUp hs (rnds W hs 64) 8) ++ rest)) 64 (fun i rec hi hr => ?_) (fun rec => ?_) k 0 (by omega) (by omega)
  · refine Eq.trans ?_ hr
    exact turn_round _ rec (rnds_length hh i) hW _ i hi
  · have hr := rnds_length (W := W) hh 64
    generalize rnds W hs 64 = V at hr ⊢
    unfold f26_L1 f26_T1
    refine (bifF rfl).trans ?_
    have hvl : (w32 V).length = 8 := by rw [w32_length, hr]
    refine (grdT (decide_eq_true (by rw [hvl]; omega))).trans ?_
    have ev : List.take 8 (List.drop 0 (w32 V)) = w32 V := by rw [List.drop_zero, take_all _ _ (by omega)]
    simp only [ev]
    exact turn_add K (by omega) hh hr rest
end
end
end Go.Proofs.YtlaojkheenobaaaDoorD
/- The digest: bytes are written. -/
namespace Go.Proofs.YtlaojkheenobaaaDoorD
open Go Go.Proofs.YtlaojkheenobaaaDoorS Go.Proofs
set_option linter.unusedVariables false
set_option linter.unusedSimpArgs false
section
variable {X : Type}
def H0 : List Int := [1779033703, 3144134277, 1013904242, 2773480762, 1359893119, 2600822924, 528734635, 1541459225]
/-- The words behind the first n blocks of bytes. -/
def blocks (m : List Int) : Nat → List Int
  | 0 => H0
  | n + 1 => comp (blocks m n) ((m.drop (64 * n)).take 64)
theorem blocks_length (m : List Int) : ∀ n, (blocks m n).length = 8
  | 0 => rfl
  | n + 1 => comp_length (blocks_length m n)
theorem blocks_app (m t : List Int) : ∀ n, 64 * n ≤ m.length → blocks (m ++ t) n = blocks m n
  | 0, _ => rfl
  | n + 1, h => by
    unfold blocks
    rw [blocks_app m t n (by omega), List.drop_append_of_le_length (by omega), List.take_append_of_le_length (by rw [List.length_drop]; omega)]
def words (m : List Int) : List Int := blocks m (m.length / 64)
theorem words_length (m : List Int) : (words m).length = 8 := blocks_length m _
theorem words_more (m t : List Int) (h : m.length % 64 + t.length < 64) : words (m ++ t) = words m := by
  unfold words
  have e : (m ++ t).length / 64 = m.length / 64 := by rw [List.length_append]; omega
  rw [e, blocks_app m t _ (by omega)]
theorem words_full (m t : List Int) (h : m.length % 64 + t.length = 64) : words (m ++ t) = comp (words m) (m.drop (64 * (m.length / 64)) ++ t) := by
  unfold words
  have e : (m ++ t).length / 64 = m.length / 64 + 1 := by rw [List.length_append]; omega
  rw [e, blocks, blocks_app m t _ (by omega), List.drop_append_of_le_length (by omega), take_all _ _ (by rw [List.length_append, List.length_drop]; omega)]
/-- A digest's row behind the bytes m; what stands in the block behind them is of no account. -/
def Hr (m : List Int) (row : List CV) : Prop := ∃ buf : List Int, row = w32 (words m) ++ (by8 buf ++ [CV.int .i64 (m.length : Int)]) ∧ buf.length = 64 ∧ Byt buf ∧ buf.take (m.length % 64) = m.drop (64 * (m.length / 64))
theorem Hr.len {m : List Int} {row : List CV} (h : Hr m row) : row.length = 73 := by
  obtain ⟨buf, rfl, h1, _, _⟩ := h
  simp [w32_length, words_length, by8_length, h1]
theorem Hr.num {m : List Int} {row : List CV} (h : Hr m row) : row[72]? = some (CV.int .i64 (m.length : Int)) := by
  obtain ⟨buf, rfl, h1, _, _⟩ := h
  rw [List.getElem?_append_right (by rw [w32_length, words_length]; omega), w32_length, words_length, List.getElem?_append_right (by rw [by8_length, h1]; omega), by8_length, h1]
  rfl
theorem blk_row {ws blk : List Int} (hw : ws.length = 8) (hb : blk.length = 64) (tl : List CV) : Blk blk (w32 ws ++ (by8 blk ++ tl)) := fun j hj => by
  have e : 0 + (8 + j * 1) = 8 + j := by omega
  rw [e, List.getElem?_append_right (by rw [w32_length, hw]; omega), w32_length, hw, List.getElem?_append_left (by rw [by8_length, hb]; omega)]
  have e2 : 8 + j - 8 = j := by omega
  rw [e2]
  exact by8_at (by omega)
theorem write_step {k : Nat} (hk : 64 < k) {m d : List Int} {row : List CV} (hm : Byt m) (hd : Byt d) (hH : Hr m row) (hl : m.length + d.length < 4611686018427387904) (h0 : 0 < d.length) :
    ∃ c row', 0 < c ∧ c ≤ d.length ∧ Hr (m ++ d.take c) row' ∧ ∀ (X : Type) (K : List CV → Option X) rec, f14_T1 (fun X => @f26 X k) k K rec (by8 d, row) = rec (by8 (d.drop c), row') := by
  have hn72 := hH.num
  have hrl := hH.len
  obtain ⟨buf, hrow, hbl, hbb, hbt⟩ := hH
  have hn : Int.tmod ((m.length : Nat) : Int) 64 = ((m.length % 64 : Nat) : Int) := by rw [tmod_eq (by omega)]; omega
  have hnlt : m.length % 64 < 64 := by omega
  have hmdl : (m.drop (64 * (m.length / 64))).length = m.length % 64 := by rw [List.length_drop]; omega
  have hm1 := words_more m
  have hm2 := words_full m
  obtain ⟨n, hnn⟩ : ∃ n, n = m.length % 64 := ⟨_, rfl⟩
  rw [← hnn] at hn hbt hmdl hm1 hm2 hnlt
  obtain ⟨c, hc⟩ : ∃ c, c = min d.length (64 - n) := ⟨_, rfl⟩
  have hwl : (w32 (words m)).length = 8 := by rw [w32_length, words_length]
  have hb8 : (by8 buf).length = 64 := by rw [by8_length, hbl]
  have hd8 : (by8 d).length = d.length := by8_length d
  have hcl : (d.take c).length = c := by rw [List.length_take]; omega
  have hcopy : List.take (8 + n) row ++ List.take c (by8 d) ++ List.drop (8 + n + c) row = w32 (words m) ++ (by8 (buf.take n ++ d.take c ++ buf.drop (n + c)) ++ [CV.int .i64 (m.length : Int)]) := by
    rw [hrow, List.take_append, List.drop_append, hwl, take_all _ _ (by omega), List.drop_of_length_le (by omega), List.nil_append]
    have e1 : 8 + n - 8 = n := by omega
    have e2 : 8 + n + c - 8 = n + c := by omega
    rw [e1, e2, List.take_append_of_le_length (by omega), List.drop_append_of_le_length (by omega), by8_append, by8_append, by8_take, by8_take, by8_drop]
    simp only [List.append_assoc]
  have hbl' : (buf.take n ++ d.take c ++ buf.drop (n + c)).length = 64 := by
    rw [List.length_append, List.length_append, List.length_take, List.length_drop, hcl]; omega
  have hbb' : Byt (buf.take n ++ d.take c ++ buf.drop (n + c)) := ((hbb.take _).app (hd.take _)).app (hbb.drop _)
  have hset : (w32 (words m) ++ (by8 (buf.take n ++ d.take c ++ buf.drop (n + c)) ++ [CV.int .i64 (m.length : Int)])).set 72 (CV.int .i64 ((m.length + c : Nat) : Int)) = w32 (words m) ++ (by8 (buf.take n ++ d.take c ++ buf.drop (n + c)) ++ [CV.int .i64 ((m.length + c : Nat) : Int)]) := by
    rw [List.set_append_right _ _ (by omega), hwl, List.set_append_right _ _ (by rw [by8_length, hbl']; omega), by8_length, hbl']
    rfl
  have hml : (m ++ d.take c).length = m.length + c := by rw [List.length_append, hcl]
  have hrest : List.take (d.length - c) (List.drop c (by8 d)) = by8 (d.drop c) := by
    rw [by8_drop, take_all _ _ (by rw [List.length_drop, hd8]; omega)]
  have hcast : (Nat.cast (by8 d).length : Int) = (d.length : Int) := by rw [hd8]
  have hwr1 : IntKind.wrap .i64 ((m.length : Int) + (c : Int)) = ((m.length + c : Nat) : Int) := by rw [wrap64 (by omega) (by omega)]; omega
  have hwr2 : IntKind.wrap .i64 ((n : Int) + (c : Int)) = ((n + c : Nat) : Int) := by rw [wrap64 (by omega) (by omega)]; omega
  have h72 : (w32 (words m) ++ (by8 (buf.take n ++ d.take c ++ buf.drop (n + c)) ++ [CV.int .i64 (m.length : Int)]))[72]? = some (CV.int .i64 (m.length : Int)) := by
    rw [List.getElem?_append_right (by omega), hwl, List.getElem?_append_right (by rw [by8_length, hbl']; omega), by8_length, hbl']
    rfl
  refine ⟨c, if n + c = 64 then w32 (comp (words m) (buf.take n ++ d.take c ++ buf.drop (n + c))) ++ (by8 (buf.take n ++ d.take c ++ buf.drop (n + c)) ++ [CV.int .i64 ((m.length + c : Nat) : Int)]) else w32 (words m) ++ (by8 (buf.take n ++ d.take c ++ buf.drop (n + c)) ++ [CV.int .i64 ((m.length + c : Nat) : Int)]), by omega, by omega, ?_, ?_⟩
  · refine ⟨buf.take n ++ d.take c ++ buf.drop (n + c), ?_, hbl', hbb', ?_⟩
    · rw [hml]
      by_cases h64 : n + c = 64
      · rw [if_pos h64, hm2 _ (by omega)]
        have : buf.take n ++ d.take c ++ buf.drop (n + c) = m.drop (64 * (m.length / 64)) ++ d.take c := by
          rw [hbt, List.drop_of_length_le (l := buf) (by omega), List.append_nil]
        rw [this]
      · rw [if_neg h64, hm1 _ (by omega)]
    · rw [hml]
      by_cases h64 : n + c = 64
      · have e1 : (m.length + c) % 64 = 0 := by omega
        rw [e1, List.take_zero, List.drop_of_length_le (by rw [hml]; omega)]
      · have e1 : (m.length + c) % 64 = n + c := by omega
        have e2 : (m.length + c) / 64 = m.length / 64 := by omega
        rw [e1, e2, List.drop_append_of_le_length (by omega), ← hbt]
        exact take_app_len _ _ _ (by rw [List.length_append, List.length_take, hcl]; omega)
  · intro X K rec
    unfold f14_T1
    simp only [hcast]
    refine (bifT (decide_eq_true (by omega))).trans ?_
    refine (bAt hn72 _).trans ?_
    refine (grdT (isI_int _ _)).trans ?_
    simp only [toI_int, hn, toNat_cast, hd8, ← hc, hrl]
    refine (grdT (decide_eq_true (by omega))).trans ?_
    refine (grdT (decide_eq_true (by omega))).trans ?_
    refine (grdT (decide_eq_true (by omega))).trans ?_
    refine (grdT (decide_eq_true (by omega))).trans ?_
    refine (grdT (decide_eq_true (by omega))).trans ?_
    refine (grdT (decide_eq_true (by omega))).trans ?_
    simp only [hcopy, hrest]
    refine (bAt h72 _).trans ?_
    refine (grdT (isI_int _ _)).trans ?_
    simp only [toI_int, hwr1, hwr2, hset]
    refine (grdT (decide_eq_true (by rw [List.length_append, List.length_append, hwl, by8_length, hbl', List.length_singleton]; omega))).trans ?_
    by_cases h64 : n + c = 64
    · refine (bifT (by rw [h64]; rfl)).trans ?_
      rw [if_pos h64]
      exact turn_eq _ hk (words_length m) _ (blk_row (words_length m) hbl' _) hbb'
    · refine (bifF (beq_f (by omega))).trans ?_
      rw [if_neg h64]
theorem write_go {k : Nat} (hk : 64 < k) : ∀ (n : Nat) (m d : List Int) (row : List CV), d.length ≤ n → Byt m → Byt d → Hr m row → m.length + d.length < 4611686018427387904 →
    ∃ row', Hr (m ++ d) row' ∧ ∀ (X : Type) (K : List CV → Option X) (j : Nat), n < j → iterV (f14_L1 (fun X => @f26 X k) k K) j (by8 d, row) = K row'
  | n, m, [], row, _, hm, _, hH, _ => ⟨row, by rw [List.append_nil]; exact hH, fun X K j hj => by
    obtain ⟨j, rfl⟩ : ∃ i, j = i + 1 := ⟨j - 1, by omega⟩
    show f14_T1 (fun X => @f26 X k) k K (iterV (f14_L1 (fun X => @f26 X k) k K) j) (by8 [], row) = K row
    unfold f14_T1
    exact bifF rfl⟩
  | 0, m, b :: d, row, h, _, _, _, _ => by simp at h
  | n + 1, m, b :: d, row, h, hm, hd, hH, hl => by
    obtain ⟨c, row1, c0, c1, hH1, hst⟩ := write_step hk hm hd hH hl (by simp)
    have hdl : ((b :: d).drop c).length ≤ n := by rw [List.length_drop]; simp at h ⊢; omega
    obtain ⟨row', g1, g2⟩ := write_go hk n (m ++ (b :: d).take c) ((b :: d).drop c) row1 hdl (hm.app (hd.take c)) (hd.drop c) hH1 (by
      rw [List.length_append, Nat.add_assoc, ← List.length_append, List.take_append_drop]; exact hl)
    rw [List.append_assoc, List.take_append_drop] at g1
    refine ⟨row', g1, fun X K j hj => ?_⟩
    obtain ⟨j, rfl⟩ : ∃ i, j = i + 1 := ⟨j - 1, by omega⟩
    exact (hst X K _).trans (g2 X K j (by omega))
/-- Write. -/
theorem write_eq {k : Nat} {m d : List Int} {row : List CV} (hk : 64 < k) (hkd : d.length < k) (hm : Byt m) (hd : Byt d) (hH : Hr m row) (hl : m.length + d.length < 4611686018427387904) :
    ∃ row', Hr (m ++ d) row' ∧ ∀ (X : Type) (K : List CV → Option X), f14 k K (by8 d) row = K row' := by
  obtain ⟨row', g1, g2⟩ := write_go hk d.length m d row (Nat.le_refl _) hm hd hH hl
  exact ⟨row', g1, fun X K => g2 X K k hkd⟩
end
end Go.Proofs.YtlaojkheenobaaaDoorD
/- The digest: the tail, the sum. -/
namespace Go.Proofs.YtlaojkheenobaaaDoorD
open Go Go.Proofs.YtlaojkheenobaaaDoorS Go.Proofs
set_option linter.unusedVariables false
set_option linter.unusedSimpArgs false
section
variable {X : Type}
theorem new_eq {k : Nat} (K : List CV → Option X) : f13 k K = K (w32 H0 ++ (by8 (List.replicate 64 0) ++ [CV.int .i64 0])) := by kernel_rfl
theorem hr_new : Hr [] (w32 H0 ++ (by8 (List.replicate 64 0) ++ [CV.int .i64 0])) :=
  ⟨List.replicate 64 0, rfl, by simp, fun b hb => by rw [List.eq_of_mem_replicate hb]; decide, rfl⟩
theorem len_eq {k : Nat} (K : Int × List CV → Option X) {m : List Int} {row : List CV} (h : Hr m row) : f17 k K row = K ((m.length : Int), row) := by
  unfold f17 f17_A f17_T
  refine (bAt h.num _).trans ?_
  exact grdT (isI_int _ _)
theorem clone_eq {k : Nat} (K : List CV × List CV → Option X) {row : List CV} (h : row.length = 73) : f22 k K row = K (row, row) := by
  unfold f22 f22_A f22_T
  have et : List.take 73 (List.drop 0 row) = row := by rw [List.drop_zero, take_all _ _ (by omega)]
  simp only [et]
  refine (grdT (decide_eq_true (by omega))).trans ?_
  refine (grdT (by rw [h]; rfl)).trans ?_
  refine (grdT rfl).trans ?_
  have e2 : ∀ z : List CV, z.length = 73 → List.take 0 z ++ row ++ List.drop 73 z = row := fun z hz => by
    rw [List.take_zero, List.nil_append, List.drop_of_length_le (by omega), List.append_nil]
  rw [e2 _ rfl]
/-- The bytes of a number of bits, the last first. -/
def lenB (L i : Nat) : Int := IntKind.wrap .u8 (Int.fdiv (IntKind.wrap .u64 (IntKind.wrap .u64 (L : Int) * 8)) (2 ^ (8 * i)))
theorem lenB_byt (L i : Nat) : 0 ≤ lenB L i ∧ lenB L i < 256 := by unfold lenB; rw [wrapU8]; omega
/-- How many bytes the tail has. -/
def padN (L : Nat) : Nat := if 64 - L % 64 < 9 then 64 - L % 64 + 64 else 64 - L % 64
theorem padN_ge (L : Nat) : 9 ≤ padN L := by unfold padN; split <;> omega
theorem padN_le (L : Nat) : padN L ≤ 72 := by unfold padN; split <;> omega
theorem padN_mod (L : Nat) : (L + padN L) % 64 = 0 := by unfold padN; split <;> omega
def pad (L : Nat) : List Int := 128 :: (List.replicate (padN L - 9) 0 ++ [lenB L 7, lenB L 6, lenB L 5, lenB L 4, lenB L 3, lenB L 2, lenB L 1, lenB L 0])
theorem pad_length (L : Nat) : (pad L).length = padN L := by
  have := padN_ge L
  simp [pad]; omega
theorem pad_byt (L : Nat) : Byt (pad L) := by
  refine .cons (by decide) (.app (fun b hb => by rw [List.eq_of_mem_replicate hb]; decide) ?_)
  repeat (first | exact .nil | refine .cons (lenB_byt L _) ?_)
def tailS (L : Nat) : Nat → List Int
  | 0 => (List.replicate (padN L) 0).set 0 128
  | i + 1 => (tailS L i).set (padN L - 1 - i) (lenB L i)
theorem tailS_length (L : Nat) : ∀ i, (tailS L i).length = padN L
  | 0 => by simp [tailS]
  | i + 1 => by simp [tailS, tailS_length L i]
theorem tailS_eq (L : Nat) : tailS L 8 = pad L := by
  have h := padN_ge L
  obtain ⟨z, hz⟩ : ∃ z, padN L = z + 9 := ⟨padN L - 9, by omega⟩
  have h0 : tailS L 0 = (128 :: List.replicate z 0) ++ [0, 0, 0, 0, 0, 0, 0, 0] := by
    have e : List.replicate (z + 9) (0 : Int) = 0 :: (List.replicate z 0 ++ [0, 0, 0, 0, 0, 0, 0, 0]) := by
      rw [List.replicate_succ (n := z + 8), ← List.replicate_append_replicate]; rfl
    unfold tailS
    rw [hz, e]; rfl
  have hs : ∀ (l : List Int) (i : Nat) (x : Int), i < 8 → ((128 :: List.replicate z 0) ++ l).set (padN L - 1 - i) x = (128 :: List.replicate z 0) ++ l.set (7 - i) x := fun l i x hi => by
    rw [List.set_append_right _ _ (by simp; omega)]
    congr 2
    simp; omega
  unfold pad
  have hz9 : padN L - 9 = z := by omega
  rw [hz9]
  simp only [tailS] at h0 ⊢
  rw [h0, hs _ 0 _ (by decide), hs _ 1 _ (by decide), hs _ 2 _ (by decide), hs _ 3 _ (by decide), hs _ 4 _ (by decide), hs _ 5 _ (by decide), hs _ 6 _ (by decide), hs _ 7 _ (by decide)]
  rfl
theorem tail_eq {k : Nat} (hk : 8 < k) (K : Nat × List CV × List CV → Option X) {m : List Int} {row : List CV} (h : Hr m row) : f27 k K row = K (padN m.length, row, by8 (pad m.length)) := by
  have h9 := padN_ge m.length
  have h72 := padN_le m.length
  have hJ : f27_J1 k K (iterV (f27_L1 k K) k) row ((padN m.length : Nat) : Int) = K (padN m.length, row, by8 (pad m.length)) := by
    unfold f27_J1
    have e0 : List.replicate (padN m.length) (CV.int .u8 0) = by8 (List.replicate (padN m.length) 0) := by simp [by8]
    simp only [toNat_cast, e0]
    refine (grdT (decide_eq_true (by omega))).trans ?_
    refine (grdT (decide_eq_true (by omega))).trans ?_
    refine (grdT (decide_eq_true (by omega))).trans ?_
    refine (grdT (decide_eq_true (by omega))).trans ?_
    refine (grdT (decide_eq_true (by rw [by8_length]; simp; omega))).trans ?_
    refine (bAt h.num _).trans ?_
    refine (grdT (isI_int _ _)).trans ?_
    simp only [toI_int, by8_set]
    refine iterV_spec (fun i => (((padN m.length : Nat) : Int), padN m.length, IntKind.wrap .u64 (IntKind.wrap .u64 (m.length : Int) * 8), (i : Int), by8 (tailS m.length i), row)) (fun _ => K (padN m.length, row, by8 (pad m.length))) 8 (fun i rec hi hr => ?_) (fun rec => ?_) k 0 (by omega) (by omega)
    · refine Eq.trans ?_ hr
      unfold f27_L1 f27_T1
      have e1 : IntKind.wrap .i64 (8 * (i : Int)) = ((8 * i : Nat) : Int) := by rw [wrap64 (by omega) (by omega)]; omega
      have e2 : IntKind.wrap .i64 (((padN m.length : Nat) : Int) - 1) = ((padN m.length - 1 : Nat) : Int) := by rw [wrap64 (by omega) (by omega)]; omega
      have e3 : IntKind.wrap .i64 (((padN m.length - 1 : Nat) : Int) - (i : Int)) = ((padN m.length - 1 - i : Nat) : Int) := by rw [wrap64 (by omega) (by omega)]; omega
      have e4 : min (8 * i) 64 = 8 * i := by omega
      have e5 : 0 + (padN m.length - 1 - i) + 0 = padN m.length - 1 - i := by omega
      refine (bifT (decide_eq_true (by omega : (i : Int) < 8))).trans ?_
      simp only [e1, e2, e3, toNat_cast, e4, e5]
      refine (grdT (decide_eq_true (by omega))).trans ?_
      refine (grdT (decide_eq_true (by omega))).trans ?_
      refine (grdT (decide_eq_true (by omega))).trans ?_
      refine (grdT (decide_eq_true (by rw [by8_length, tailS_length]; omega))).trans ?_
      rw [by8_set, wrap64_s (by omega)]
      rfl
    · unfold f27_L1 f27_T1
      refine (bifF rfl).trans ?_
      have : List.take (0 + padN m.length) (by8 (tailS m.length 8)) = by8 (pad m.length) := by
        rw [tailS_eq, take_all _ _ (by rw [by8_length, pad_length]; omega)]
      simp only [this]
  unfold f27 f27_A f27_T
  refine (bAt h.num _).trans ?_
  refine (grdT (isI_int _ _)).trans ?_
  have hn : Int.tmod ((m.length : Nat) : Int) 64 = ((m.length % 64 : Nat) : Int) := by rw [tmod_eq (by omega)]; omega
  have e1 : IntKind.wrap .i64 (64 - ((m.length % 64 : Nat) : Int)) = ((64 - m.length % 64 : Nat) : Int) := by rw [wrap64 (by omega) (by omega)]; omega
  simp only [toI_int, hn, e1]
  by_cases h1 : 64 - m.length % 64 < 9
  · refine (bifT (decide_eq_true (by omega))).trans ?_
    have e2 : IntKind.wrap .i64 (((64 - m.length % 64 : Nat) : Int) + 64) = ((padN m.length : Nat) : Int) := by
      unfold padN
      rw [wrap64 (by omega) (by omega), if_pos h1]; omega
    rw [e2]
    exact hJ
  · refine (bifF (decide_eq_false (by omega))).trans ?_
    have e2 : ((64 - m.length % 64 : Nat) : Int) = ((padN m.length : Nat) : Int) := by
      unfold padN
      rw [if_neg h1]
    rw [e2]
    exact hJ
/-- The words as bytes. -/
def outB (ws : List Int) : Nat → List Int
  | 0 => List.replicate 32 0
  | t + 1 => (outB ws t).set t (IntKind.wrap .u8 (Int.fdiv (ws.getD (t / 4) 0) (2 ^ (24 - 8 * (t % 4)))))
theorem outB_length (ws : List Int) : ∀ t, (outB ws t).length = 32
  | 0 => by simp [outB]
  | t + 1 => by simp [outB, outB_length ws t]
theorem outB_byt (ws : List Int) : ∀ t, Byt (outB ws t)
  | 0 => fun b hb => by rw [outB] at hb; rw [List.eq_of_mem_replicate hb]; decide
  | t + 1 => fun b hb => by
    rcases List.mem_or_eq_of_mem_set hb with h | h
    · exact outB_byt ws t b h
    · rw [h, wrapU8]; omega
/-- The digest of bytes. -/
def dig (m : List Int) : List Int := outB (words (m ++ pad m.length)) 32
theorem dig_length (m : List Int) : (dig m).length = 32 := outB_length _ _
theorem dig_byt (m : List Int) : Byt (dig m) := outB_byt _ _
theorem sum_out {k : Nat} (hk : 8 < k) (K : List CV × List CV → Option X) {ws : List Int} (hw : ws.length = 8) (row : List CV) :
    iterV (f16_L1 (fun X => @f22 X k) (fun X => @f27 X k) (fun X => @f14 X k) k K) k (w32 ws, 0, by8 (outB ws 0), row) = K (by8 (outB ws 32), row) := by
  refine iterV_spec (fun i => (w32 ws, (i : Int), by8 (outB ws (4 * i)), row)) (fun _ => K (by8 (outB ws 32), row)) 8 (fun i rec hi hr => ?_) (fun rec => ?_) k 0 (by omega) (by omega)
  · refine Eq.trans ?_ hr
    unfold f16_L1 f16_T1
    refine (bifT (decide_eq_true (by omega : (i : Int) < 8))).trans ?_
    simp only [toNat_cast]
    refine (grdT (decide_eq_true (by omega))).trans ?_
    refine (grdT (decide_eq_true (by omega))).trans ?_
    refine (bAt (w32_at (by omega)) _).trans ?_
    refine (grdT (isI_int _ _)).trans ?_
    simp only [toI_int]
    refine iterV_spec (fun j => ((i : Int), ws.getD i 0, w32 ws, (i : Int), (j : Int), by8 (outB ws (4 * i + j)), row)) (fun _ => rec (w32 ws, ((i + 1 : Nat) : Int), by8 (outB ws (4 * (i + 1))), row)) 4 (fun j rec' hj hr' => ?_) (fun rec' => ?_) k 0 (by omega) (by omega)
    · refine Eq.trans ?_ hr'
      unfold f16_L2 f16_T2
      have e1 : IntKind.wrap .i64 (8 * (j : Int)) = ((8 * j : Nat) : Int) := by rw [wrap64 (by omega) (by omega)]; omega
      have e2 : IntKind.wrap .i64 (24 - ((8 * j : Nat) : Int)) = ((24 - 8 * j : Nat) : Int) := by rw [wrap64 (by omega) (by omega)]; omega
      have e3 : IntKind.wrap .i64 (4 * (i : Int)) = ((4 * i : Nat) : Int) := by rw [wrap64 (by omega) (by omega)]; omega
      have e4 : IntKind.wrap .i64 (((4 * i : Nat) : Int) + (j : Int)) = ((4 * i + j : Nat) : Int) := by rw [wrap64 (by omega) (by omega)]; omega
      have e5 : 0 + (0 + (4 * i + j) * 1) = 4 * i + j := by omega
      have e6 : min (24 - 8 * j) 32 = 24 - 8 * j := by omega
      refine (bifT (decide_eq_true (by omega : (j : Int) < 4))).trans ?_
      simp only [e1, e2, e3, e4, toNat_cast, e5, e6]
      refine (grdT (decide_eq_true (by omega))).trans ?_
      refine (grdT (decide_eq_true (by omega))).trans ?_
      refine (grdT (decide_eq_true (by omega))).trans ?_
      refine (grdT (decide_eq_true (by rw [by8_length, outB_length]; omega))).trans ?_
      rw [by8_set, wrap64_s (by omega)]
      have e7 : (4 * i + j) / 4 = i := by omega
      have e8 : (4 * i + j) % 4 = j := by omega
      have e9 : outB ws (4 * i + (j + 1)) = (outB ws (4 * i + j)).set (4 * i + j) (IntKind.wrap .u8 (Int.fdiv (ws.getD i 0) (2 ^ (24 - 8 * j)))) := by
        rw [show 4 * i + (j + 1) = (4 * i + j) + 1 from rfl, outB, e7, e8]
      rw [e9]
    · unfold f16_L2 f16_T2
      refine (bifF rfl).trans ?_
      simp only
      rw [wrap64_s (by omega)]
      rfl
  · unfold f16_L1 f16_T1
    refine (bifF rfl).trans ?_
    have hl : (by8 (outB ws (4 * 8))).length = 32 := by rw [by8_length, outB_length]
    generalize by8 (outB ws (4 * 8)) = W at hl ⊢
    have et : List.take 32 (List.drop 0 W) = W := by rw [List.drop_zero, take_all _ _ (by omega)]
    have e2 : List.take 0 (List.replicate 32 (CV.int .u8 0)) ++ W ++ List.drop 32 (List.replicate 32 (CV.int .u8 0)) = W := by simp
    simp only [et, e2]
    refine (grdT (decide_eq_true (by omega))).trans ?_
    refine (grdT (by rw [hl]; rfl)).trans ?_
    refine (grdT rfl).trans ?_
    exact grdT (decide_eq_true (by omega))
/-- Sum. -/
theorem sum_eq {k : Nat} (hk : 80 < k) (K : List CV × List CV → Option X) {m : List Int} {row : List CV} (hm : Byt m) (h : Hr m row) (hl : m.length < 1073741824) : f16 k K row = K (by8 (dig m), row) := by
  unfold f16 f16_A f16_T
  refine (clone_eq _ h.len).trans ?_
  refine (tail_eq (by omega) _ h).trans ?_
  have et : List.take (padN m.length) (List.drop 0 (by8 (pad m.length))) = by8 (pad m.length) := by rw [List.drop_zero, take_all _ _ (by rw [by8_length, pad_length]; omega)]
  have h72 := padN_le m.length
  obtain ⟨row', hr', hw⟩ := write_eq (k := k) (by omega) (by rw [pad_length]; omega) hm (pad_byt m.length) h (by rw [pad_length]; omega)
  simp only [et]
  refine (hw _ _).trans ?_
  obtain ⟨buf, rfl, _, _, _⟩ := hr'
  have hwl : (w32 (words (m ++ pad m.length))).length = 8 := by rw [w32_length, words_length]
  refine (grdT (decide_eq_true (by rw [List.length_append, hwl]; omega))).trans ?_
  rw [List.drop_zero, take_app_len _ _ _ hwl]
  exact sum_out (by omega) K (words_length _) row
def rows8 (ps : List (List Int)) : List CV := ps.map fun p => CV.slc none (by8 p)
theorem rows8_at {ps : List (List Int)} {i : Nat} (h : i < ps.length) : (rows8 ps)[i]? = some (CV.slc none (by8 (ps.getD i []))) := by
  unfold rows8
  rw [List.getElem?_map, List.getElem?_eq_getElem h, List.getD_eq_getElem?_getD, List.getElem?_eq_getElem h]; rfl
theorem rows8_length (ps : List (List Int)) : (rows8 ps).length = ps.length := by simp [rows8]
theorem flat_succ {ps : List (List Int)} {i : Nat} (h : i < ps.length) : (ps.take (i + 1)).flatten = (ps.take i).flatten ++ ps.getD i [] := by
  rw [List.take_add_one, List.flatten_append, List.getD_eq_getElem?_getD, List.getElem?_eq_getElem h]; simp
theorem flat_le : ∀ (ps : List (List Int)) (i : Nat), (ps.take i).flatten.length ≤ ps.flatten.length
  | [], i => by simp
  | p :: ps, 0 => by simp
  | p :: ps, i + 1 => by
    rw [List.take_succ_cons, List.flatten_cons, List.flatten_cons, List.length_append, List.length_append]
    have := flat_le ps i; omega
theorem getD_byts {ps : List (List Int)} (h : ∀ p ∈ ps, Byt p) (i : Nat) : Byt (ps.getD i []) := by
  rw [List.getD_eq_getElem?_getD]
  cases e : ps[i]? with
  | none => exact .nil
  | some p => exact h p (List.mem_of_getElem? e)
theorem byt_flat {ps : List (List Int)} (h : ∀ p ∈ ps, Byt p) : Byt ps.flatten := fun b hb => by
  obtain ⟨p, hp, hb⟩ := List.mem_flatten.1 hb
  exact h p hp b hb
theorem byt_flat_take {ps : List (List Int)} (h : ∀ p ∈ ps, Byt p) (i : Nat) : Byt (ps.take i).flatten := byt_flat fun p hp => h p (List.mem_of_mem_take hp)
/-- A part at a time. -/
theorem part_le {ps : List (List Int)} {i : Nat} (h : i < ps.length) : (ps.take i).flatten.length + (ps.getD i []).length ≤ ps.flatten.length := by
  have := flat_le ps (i + 1)
  rw [flat_succ h, List.length_append] at this
  exact this
/-- The sum of parts. -/
theorem sums_eq {k : Nat} (hk : 80 < k) (K : List CV → Option X) {ps : List (List Int)} (hps : ∀ p ∈ ps, Byt p) (hn : ps.length < k) (hfl : ps.flatten.length < k) (hk2 : k < 1073741824) : f15 k K (rows8 ps) = K (by8 (dig ps.flatten)) := by
  unfold f15 f15_A f15_T
  refine (new_eq _).trans ?_
  have hs : ∀ (j : Nat) v, iterV (f15_L1 (fun X => @f13 X k) (fun X => @f14 X k) (fun X => @f16 X k) k K) (j + 1) v = f15_T1 (fun X => @f13 X k) (fun X => @f14 X k) (fun X => @f16 X k) k K (iterV (f15_L1 (fun X => @f13 X k) (fun X => @f14 X k) (fun X => @f16 X k) k K) j) v := fun _ _ => rfl
  have go : ∀ (n i : Nat) (row : List CV) (j : Nat), ps.length - i ≤ n → i ≤ ps.length → n < j → Hr (ps.take i).flatten row →
      iterV (f15_L1 (fun X => @f13 X k) (fun X => @f14 X k) (fun X => @f16 X k) k K) j (rows8 ps, (ps.length : Int), (i : Int), row) = K (by8 (dig ps.flatten)) := fun n => by
    induction n with
    | zero =>
      intro i row j h1 h2 h3 h4
      obtain ⟨j, rfl⟩ : ∃ q, j = q + 1 := ⟨j - 1, by omega⟩
      have hi : i = ps.length := by omega
      subst hi
      rw [List.take_length] at h4
      refine (hs _ _).trans ?_
      unfold f15_T1
      refine (bifF (decide_eq_false (by omega : ¬ (ps.length : Int) < (ps.length : Int)))).trans ?_
      refine (sum_eq hk _ (byt_flat hps) h4 (by omega)).trans ?_
      have hl : (by8 (dig ps.flatten)).length = 32 := by rw [by8_length, dig_length]
      generalize by8 (dig ps.flatten) = W at hl ⊢
      have et : List.take 32 (List.drop 0 W) = W := by rw [List.drop_zero, take_all _ _ (by omega)]
      have e2 : List.take 0 (List.replicate 32 (CV.int .u8 0)) ++ W ++ List.drop 32 (List.replicate 32 (CV.int .u8 0)) = W := by simp
      simp only [et, e2]
      refine (grdT (by rw [hl]; rfl)).trans ?_
      refine (grdT rfl).trans ?_
      exact grdT (decide_eq_true (by omega))
    | succ n ih =>
      intro i row j h1 h2 h3 h4
      rcases Nat.lt_or_ge i ps.length with hi | hi
      · obtain ⟨j, rfl⟩ : ∃ q, j = q + 1 := ⟨j - 1, by omega⟩
        have hp := part_le hi
        obtain ⟨row', g1, g2⟩ := write_eq (k := k) (by omega) (by omega : (ps.getD i []).length < k) (byt_flat_take hps i) (getD_byts hps i) h4 (by omega)
        rw [← flat_succ hi] at g1
        refine (hs _ _).trans ?_
        unfold f15_T1
        refine (bifT (decide_eq_true (by omega : (i : Int) < (ps.length : Int)))).trans ?_
        refine (grdT (decide_eq_true (by omega : (0 : Int) ≤ (i : Int)))).trans ?_
        refine (bAt (rows8_at hi) _).trans ?_
        refine (grdT (isL_slc _ _)).trans ?_
        refine (g2 _ _).trans ?_
        simp only
        rw [wrap64_s (by omega)]
        exact ih (i + 1) row' j (by omega) (by omega) (by omega) g1
      · exact ih i row j (by omega) h2 (by omega) h4
  have h0 := go ps.length 0 _ k (by omega) (by omega) hn (by simpa using hr_new)
  refine Eq.trans ?_ h0
  rw [rows8_length]
  rfl
end
end Go.Proofs.YtlaojkheenobaaaDoorD
/- The document's examples. -/
namespace Go.Proofs.YtlaojkheenobaaaDoorD
open Go Go.Proofs.YtlaojkheenobaaaDoorS Go.Proofs
set_option linter.unusedVariables false
set_option linter.unusedSimpArgs false
section
variable {X : Type}
theorem nums_by8 {d : List Int} (h : d.length = 32) : numsAre .u8 32 (by8 d) = true := by
  unfold numsAre
  rw [by8_length, h, Bool.and_eq_true, List.all_eq_true]
  exact ⟨rfl, fun c hc => by
    obtain ⟨n, _, rfl⟩ := List.mem_map.1 hc
    exact isI_int _ _⟩
theorem ints_by8 (d : List Int) : intsOf (by8 d) = d := by
  unfold intsOf by8
  rw [List.map_map]
  exact List.map_id d
theorem dig_none : dig [] = [227, 176, 196, 66, 152, 252, 28, 20, 154, 251, 244, 200, 153, 111, 185, 36, 39, 174, 65, 228, 100, 155, 147, 76, 164, 149, 153, 27, 120, 82, 184, 85] := by kernel_rfl
def abcD : List Int := [186, 120, 22, 191, 143, 1, 207, 234, 65, 65, 64, 222, 93, 174, 34, 35, 176, 3, 97, 163, 150, 23, 122, 156, 180, 16, 255, 97, 242, 0, 21, 173]
theorem dig_abc : dig [97, 98, 99] = abcD := by kernel_rfl
theorem hex_eq {k : Nat} (K : ByteArray → Option X) {d : List Int} (hl : d.length = 32) (hd : Byt d) : f20 k K (by8 d) = K (Go.Proofs.YtlaojkheenobaaaDoor.hexT (by8 d)) := by
  unfold f20
  refine grdT ?_
  unfold Go.Proofs.YtlaojkheenobaaaDoor.okHex
  rw [nums_by8 hl, ints_by8, Bool.true_and, List.all_eq_true]
  intro n hn
  have := hd n hn
  simp; omega
theorem parse_abc {k : Nat} (K : List CV × Int → Option X) : f18 (k + 70) K (Go.Proofs.YtlaojkheenobaaaDoor.hexT (by8 abcD)) = K (by8 abcD, 0) := by kernel_rfl
theorem parse_x {k : Nat} (K : List CV × Int → Option X) : f18 k K (⟨#[120]⟩) = K (by8 (List.replicate 32 0), 20) := by kernel_rfl
theorem alive_eq {k : Nat} (K : Bool → Option X) (hk : 100 < k) (hk2 : k < 1073741824) : f9 k K = K true := by
  unfold f9 f9_A f9_T
  have hb2 : Byt [97, 98] := .cons (by decide) (.cons (by decide) .nil)
  have hb1 : Byt [99] := .cons (by decide) .nil
  have hb3 : Byt [97, 98, 99] := .cons (by decide) (.cons (by decide) (.cons (by decide) .nil))
  obtain ⟨r2, h2, g2⟩ := write_eq (k := k) (m := []) (d := [97, 98]) (by omega) (by simp; omega) .nil hb2 hr_new (by simp)
  obtain ⟨r3, h3, g3⟩ := write_eq (k := k) (m := [97, 98]) (d := [99]) (by omega) (by simp; omega) hb2 hb1 h2 (by simp)
  have h2 : Hr [97, 98] r2 := h2
  have h3 : Hr [97, 98, 99] r3 := h3
  obtain ⟨k', rfl⟩ : ∃ q, k = q + 70 := ⟨k - 70, by omega⟩
  have habl : abcD.length = 32 := rfl
  have hab : Byt abcD := by rw [← dig_abc]; exact dig_byt _
  refine (new_eq _).trans ?_
  refine (g2 _ _).trans ?_
  refine (clone_eq _ h2.len).trans ?_
  refine (g3 _ _).trans ?_
  refine (sum_eq (by omega) _ hb3 h3 (by simp)).trans ?_
  simp only [dig_abc]
  refine (hex_eq _ habl hab).trans ?_
  refine (parse_abc _).trans ?_
  refine (grdT rfl).trans ?_
  refine (grdT rfl).trans ?_
  refine (parse_x _).trans ?_
  refine (grdT rfl).trans ?_
  refine (grdT rfl).trans ?_
  refine (sums_eq (ps := []) (by omega) _ (fun p hp => by simp at hp) (by simp) (by simp) hk2).trans ?_
  refine (hex_eq _ (dig_length _) (dig_byt _)).trans ?_
  have hx0 : ((Go.Proofs.YtlaojkheenobaaaDoor.hexT (by8 (dig ([] : List (List Int)).flatten))).toList == (⟨#[101, 51, 98, 48, 99, 52, 52, 50, 57, 56, 102, 99, 49, 99, 49, 52, 57, 97, 102, 98, 102, 52, 99, 56, 57, 57, 54, 102, 98, 57, 50, 52, 50, 55, 97, 101, 52, 49, 101, 52, 54, 52, 57, 98, 57, 51, 52, 99, 97, 52, 57, 53, 57, 57, 49, 98, 55, 56, 53, 50, 98, 56, 53, 53]⟩ : ByteArray).toList) = true := by
    rw [List.flatten_nil, dig_none]; kernel_rfl
  refine (bifT hx0).trans ?_
  refine (sums_eq (ps := [[97], [98, 99]]) (by omega) _ (fun p hp => by
    simp only [List.mem_cons, List.not_mem_nil, or_false] at hp
    rcases hp with rfl | rfl
    · exact .cons (by decide) .nil
    · exact .cons (by decide) (.cons (by decide) .nil)) (by show _ < k' + 70; simp; try omega) (by show _ < k' + 70; simp; try omega) hk2).trans ?_
  have e12 : dig ([[97], [98, 99]] : List (List Int)).flatten = abcD := dig_abc
  simp only [e12]
  refine (hex_eq _ habl hab).trans ?_
  have hx1 : ((Go.Proofs.YtlaojkheenobaaaDoor.hexT (by8 abcD)).toList == (⟨#[98, 97, 55, 56, 49, 54, 98, 102, 56, 102, 48, 49, 99, 102, 101, 97, 52, 49, 52, 49, 52, 48, 100, 101, 53, 100, 97, 101, 50, 50, 50, 51, 98, 48, 48, 51, 54, 49, 97, 51, 57, 54, 49, 55, 55, 97, 57, 99, 98, 52, 49, 48, 102, 102, 54, 49, 102, 50, 48, 48, 49, 53, 97, 100]⟩ : ByteArray).toList) = true := by kernel_rfl
  refine (bifT hx1).trans ?_
  refine (sum_eq (by omega) _ hb3 h3 (by simp)).trans ?_
  simp only [dig_abc]
  refine (sums_eq (ps := [[97, 98, 99]]) (by omega) _ (fun p hp => by
    simp only [List.mem_cons, List.not_mem_nil, or_false] at hp
    rw [hp]; exact hb3) (by show _ < k' + 70; simp; try omega) (by show _ < k' + 70; simp; try omega) hk2).trans ?_
  have e13 : dig ([[97, 98, 99]] : List (List Int)).flatten = abcD := dig_abc
  simp only [e13]
  refine (grdT rfl).trans ?_
  refine (bifT rfl).trans ?_
  refine (len_eq _ h3).trans ?_
  refine (bifT rfl).trans ?_
  refine (len_eq _ h2).trans ?_
  refine (bifT rfl).trans ?_
  refine (bifT rfl).trans ?_
  refine (grdT rfl).trans ?_
  refine (sum_eq (by omega) _ hb3 h3 (by simp)).trans ?_
  simp only [dig_abc]
  refine (grdT rfl).trans ?_
  exact bifT rfl
end
end Go.Proofs.YtlaojkheenobaaaDoorD
