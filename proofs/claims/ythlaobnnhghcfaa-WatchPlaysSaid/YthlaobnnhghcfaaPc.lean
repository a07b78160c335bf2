/- Watches, in plain words: the table. -/
import Derived.Test.YthlaobnnhghcfaaPb
import Derived.Test.YthlaobnnhghcfaaLIx
namespace Go.Proofs.YthlaobnnhghcfaaD
open Go Go.Proofs.YthlaobnnhghcfaaS Go.Proofs
set_option linter.unusedVariables false
set_option linter.unusedSimpArgs false
section
variable {X : Type}
abbrev Tup := Int × Nat × Nat × Int × Int × Bool × Bool × Int × Int × Int × Bool × Bool × Bool × Int × Int × ByteArray × Nat × Int × Int × Int × Int × (List CV) × (List CV) × (List CV)
/-- What `copied` hands back. -/
def W.tup (w : W) : Tup := (w.server, w.token.length, w.path.length, w.c.pmin, w.c.pmax, w.c.hasMin, w.c.hasMax, w.c.gt, w.c.lt, w.c.st, w.c.hasGt, w.c.hasLt, w.c.hasSt, w.v.kind, w.v.n, w.v.s, w.v.b.length, w.v.obj, w.v.inst, w.at_, w.seq, by8 w.token, by64 w.path, by8 w.v.b)
/-- The watch that is made of it. -/
def tupCV (u : Tup) (a q : Int) : CV := .agg [(CV.int .i64 u.1), (CV.slc none (List.take u.2.1 (List.drop 0 u.2.2.2.2.2.2.2.2.2.2.2.2.2.2.2.2.2.2.2.2.2.1))), (CV.slc none (List.take u.2.2.1 (List.drop 0 u.2.2.2.2.2.2.2.2.2.2.2.2.2.2.2.2.2.2.2.2.2.2.1))), (CV.int .i64 u.2.2.2.1), (CV.int .i64 u.2.2.2.2.1), (CV.bool u.2.2.2.2.2.1), (CV.bool u.2.2.2.2.2.2.1), (CV.int .i64 u.2.2.2.2.2.2.2.1), (CV.int .i64 u.2.2.2.2.2.2.2.2.1), (CV.int .i64 u.2.2.2.2.2.2.2.2.2.1), (CV.bool u.2.2.2.2.2.2.2.2.2.2.1), (CV.bool u.2.2.2.2.2.2.2.2.2.2.2.1), (CV.bool u.2.2.2.2.2.2.2.2.2.2.2.2.1), (CV.int .i64 u.2.2.2.2.2.2.2.2.2.2.2.2.2.1), (CV.int .i64 u.2.2.2.2.2.2.2.2.2.2.2.2.2.2.1), (CV.str u.2.2.2.2.2.2.2.2.2.2.2.2.2.2.2.1), (CV.slc none (List.take u.2.2.2.2.2.2.2.2.2.2.2.2.2.2.2.2.1 (List.drop 0 u.2.2.2.2.2.2.2.2.2.2.2.2.2.2.2.2.2.2.2.2.2.2.2))), (CV.int .i64 u.2.2.2.2.2.2.2.2.2.2.2.2.2.2.2.2.2.1), (CV.int .i64 u.2.2.2.2.2.2.2.2.2.2.2.2.2.2.2.2.2.2.1), (CV.int .i64 a), (CV.int .i64 q)]
theorem take8 (a : List Int) : List.take a.length (List.drop 0 (by8 a)) = by8 a := by rw [List.drop_zero]; exact take_all _ _ (by rw [by8_length]; exact Nat.le_refl _)
theorem take64 (a : List Int) : List.take a.length (List.drop 0 (by64 a)) = by64 a := by rw [List.drop_zero]; exact take_all _ _ (by rw [by64_length]; exact Nat.le_refl _)
theorem tupCV_eq (w : W) (a q : Int) : tupCV w.tup a q = ({ w with at_ := a, seq := q } : W).cv := by
  unfold tupCV W.tup
  simp only [take8, take64]
  rfl
theorem cloneI_eq {k : Nat} (K : List CV → Option X) (x : List CV) (h : x.length < 8796093022208) : f47 k K x = K x := by
  unfold f47
  rw [grd_dec (by omega)]
theorem copied_eq {k : Nat} (K : Tup → Option X) (w : W) (h1 : w.token.length < 70368744177664) (h2 : w.path.length < 8796093022208) (h3 : w.v.b.length < 70368744177664) : f31 k K w.cv = K w.tup := by
  have e : f31 k K w.cv = f35 k (fun u1 => f47 k (fun u2 => f35 k (fun u3 =>
      K (w.server, (List.length u1), (List.length u2), w.c.pmin, w.c.pmax, w.c.hasMin, w.c.hasMax, w.c.gt, w.c.lt, w.c.st, w.c.hasGt, w.c.hasLt, w.c.hasSt, w.v.kind, w.v.n, w.v.s, (List.length u3), w.v.obj, w.v.inst, w.at_, w.seq, (List.take (0 + (List.length u1)) u1), (List.take (0 + (List.length u2)) u2), (List.take (0 + (List.length u3)) u3)))
      (by8 w.v.b)) (by64 w.path)) (by8 w.token) := by kernel_rfl
  rw [e, clone_eq _ _ (by rw [by8_length]; exact h1), cloneI_eq _ _ (by rw [by64_length]; exact h2), clone_eq _ _ (by rw [by8_length]; exact h3)]
  simp only [Nat.zero_add, List.take_length, by8_length, by64_length]
  congr 1
  have t8 : ∀ a : List Int, List.take a.length (by8 a) = by8 a := fun a => take_all _ _ (by rw [by8_length]; exact Nat.le_refl _)
  have t64 : ∀ a : List Int, List.take a.length (by64 a) = by64 a := fun a => take_all _ _ (by rw [by64_length]; exact Nat.le_refl _)
  rw [t8, t64, t8]
  rfl
/-- Does a path go right? -/
def pathOk (p : List Int) : Bool := p.all (fun x => !(decide (x < 0) || decide (x > 65535))) && decide (p.length ≤ 3)
theorem all_drop {α : Type} (p : α → Bool) (l : List α) (i : Nat) (h : i < l.length) : (l.drop i).all p = (p l[i] && (l.drop (i + 1)).all p) := by
  rw [List.drop_eq_getElem_cons h, List.all_cons]
theorem right_eq {k : Nat} (K : Bool → Option X) (p : List Int) (hk : p.length < k) (hl : p.length < 4611686018427387904) : f30 k K (by64 p) = K (pathOk p) := by
  unfold f30 f30_A f30_T
  have key := iterV_spec (T := f30_L1 k K) (fun i => (by64 p, by64 p, (p.length : Int), (i : Int))) (fun i => K ((p.drop i).all (fun x => !(decide (x < 0) || decide (x > 65535))) && decide (p.length ≤ 3))) p.length (fun i rec hi hr => by
      unfold f30_L1 f30_T1
      simp only [by64_length, by64_get, Int.toNat_natCast, List.getElem?_eq_getElem hi, Option.map_some, Option.bind_some, isI_int, toI_int, grd_true, dec0, decLt, hi, decide_true, cond_true, wrap64_succ (show i < 4611686018427387904 by omega), hr]
      rw [all_drop _ _ _ hi]
      by_cases c1 : p[i] < 0
      · refine (bifT (decide_eq_true c1)).trans ?_
        rw [decide_eq_true c1]; rfl
      · refine (bifF (decide_eq_false c1)).trans ?_
        rw [decide_eq_false c1]
        by_cases c2 : p[i] > 65535
        · refine (bifT (decide_eq_true c2)).trans ?_
          rw [decide_eq_true c2]; rfl
        · refine (bifF (decide_eq_false c2)).trans ?_
          rw [decide_eq_false c2]
          simp) (fun rec => by
      unfold f30_L1 f30_T1
      simp only [by64_length, bif_dec]
      rw [if_neg (by omega)]
      congr 1
      simp
      omega) k 0 (Nat.zero_le _) (by omega)
  simp only [by64_length] at key ⊢
  exact key
/-- Is a watch that of a server and a token? -/
def W.is (server : Int) (token : List Int) (w : W) : Bool := w.server == server && decide (w.token = token)
theorem idx1_eq {k : Nat} (K : Bool → Option X) (w : W) (server : Int) (token : List Int) (h1 : Byt w.token) (h2 : Byt token) : f49 k K w.cv server (by8 token) = K (w.is server token) := by
  have e : f49 k K w.cv server (by8 token) = (bif w.server == server then f42 k (fun u => K u) (by8 w.token) (by8 token) else K false) := by kernel_rfl
  rw [e, bytesEqual_eq _ _ _ h1 h2]
  unfold W.is
  cases w.server == server <;> rfl
theorem map_get {α : Type} (f : α → CV) (l : List α) (i : Nat) (h : i < l.length) : (l.map f)[i]? = some (f l[i]) := by rw [List.getElem?_map, List.getElem?_eq_getElem h]; rfl
/-- Watches that are sized. -/
def Ws (ws : List W) : Prop := ∀ w ∈ ws, w.ok
theorem find1_eq {k : Nat} (K : Int → Option X) (ws : List W) (server : Int) (token : List Int) (hw : Ws ws) (ht : Byt token) (hk : ws.length < k) (hl : ws.length < 4611686018427387904) : f48 k K (ws.map W.cv) server (by8 token) = K (ixI (ixf (W.is server token) 0 ws)) := by
  unfold f48 f48_A f48_T
  rw [List.length_map]
  refine ixLoop0 (fun i => (ws.map W.cv, server, by8 token, (ws.length : Int), (i : Int))) (W.is server token) ws K (fun i rec h => ?_) (fun rec => ?_) k hk
  · unfold f48_L1 f48_T1
    simp only [decLt, h, decide_true, cond_true, dec0, grd_true, Int.toNat_natCast, map_get _ _ _ h, Option.bind_some]
    rw [idx1_eq _ _ _ _ (hw _ (List.getElem_mem h)).tok ht, wrap64_succ (by omega)]
  · unfold f48_L1 f48_T1
    simp only [decLt, Nat.lt_irrefl, decide_false, cond_false]
theorem takeMap (ws : List W) : List.take ws.length (ws.map W.cv) = ws.map W.cv := take_all _ _ (by rw [List.length_map]; exact Nat.le_refl _)
theorem takeMap0 (ws : List W) : List.take (0 + ws.length) (ws.map W.cv) = ws.map W.cv := by rw [Nat.zero_add]; exact takeMap ws
theorem index_eq {k : Nat} (K : Int × Nat × List CV → Option X) (ws : List W) (server : Int) (token : List Int) (hw : Ws ws) (ht : Byt token) (hk : ws.length < k) (hl : ws.length < 4611686018427387904) : f33 k K server (by8 token) ws.length (ws.map W.cv) = K (ixI (ixf (W.is server token) 0 ws), ws.length, ws.map W.cv) := by
  have e : f33 k K server (by8 token) ws.length (ws.map W.cv) = f48 k (fun u1 => K (u1, ws.length, List.take (0 + ws.length) (ws.map W.cv))) (List.take ws.length (List.drop 0 (ws.map W.cv))) server (by8 token) := by kernel_rfl
  rw [e, List.drop_zero, takeMap, takeMap0, find1_eq _ _ _ _ hw ht hk hl]
/-- A watch as it comes into a table. -/
def W.fresh (w : W) : W := { w with at_ := ck w.at_, seq := 0 }
/-- What Add makes of watches. -/
def addW (ws : List W) (w : W) : List W × Int :=
  if w.token.length > 8 ∨ pathOk w.path = false then (ws, 1)
  else match ixf (W.is w.server w.token) 0 ws with
    | some i => (ws.set i w.fresh, 0)
    | none => if ws.length ≥ 6 then (ws, 6) else (ws ++ [w.fresh], 0)
theorem add_eq {k : Nat} (K : Int × Nat × List CV → Option X) (ws : List W) (w : W) (hw : Ws ws) (h8 : ws.length ≤ 6) (ht : Byt w.token) (h1 : w.token.length < 70368744177664) (h2 : w.path.length < k) (h2' : w.path.length < 8796093022208) (h3 : w.v.b.length < 70368744177664) (hk : 6 < k) :
    f9 k K w.cv ws.length (ws.map W.cv) = K ((addW ws w).2, (addW ws w).1.length, (addW ws w).1.map W.cv) := by
  have e : f9 k K w.cv ws.length (ws.map W.cv) = (
      let xs := ws.map W.cv
      let n := ws.length
      bif decide ((Nat.cast (by8 w.token).length : Int) > 8) then K (1, n, List.take (0 + n) xs)
      else f30 k (fun u2 => bif !u2 then K (1, n, List.take (0 + n) xs) else
        f31 k (fun u3 => f32 k (fun u4 => f33 k (fun u6 =>
          bif decide (u6.1 ≥ 0) then grd (decide (0 ≤ u6.1)) <| grd (decide (u6.1 < (Nat.cast u6.2.1 : Int))) <| grd (decide ((0 + Int.toNat u6.1) < u6.2.2.length)) <|
            K (0, u6.2.1, List.take (0 + u6.2.1) (List.set u6.2.2 (0 + Int.toNat u6.1) (tupCV u3 u4 0)))
          else bif decide ((Nat.cast u6.2.1 : Int) ≥ 6) then K (6, u6.2.1, List.take (0 + u6.2.1) u6.2.2)
          else grd (decide ((u6.2.1 + 1) * 200 ≤ 140737488355328)) <| K (0, u6.2.1 + 1, List.take (0 + (u6.2.1 + 1)) (List.take u6.2.1 u6.2.2 ++ [tupCV u3 u4 0])))
          u3.1 (List.take u3.2.1 (List.drop 0 u3.2.2.2.2.2.2.2.2.2.2.2.2.2.2.2.2.2.2.2.2.2.1)) n xs) u3.2.2.2.2.2.2.2.2.2.2.2.2.2.2.2.2.2.2.2.1) w.cv) (by64 w.path)) := by kernel_rfl
  rw [e]
  simp only [takeMap0]
  rw [right_eq _ _ h2 (by omega), copied_eq _ _ h1 h2' h3]
  have e2 : (w.tup).1 = w.server := rfl
  have e3 : List.take (w.tup).2.1 (List.drop 0 (w.tup).2.2.2.2.2.2.2.2.2.2.2.2.2.2.2.2.2.2.2.2.2.1) = by8 w.token := take8 _
  have e4 : (w.tup).2.2.2.2.2.2.2.2.2.2.2.2.2.2.2.2.2.2.2.1 = w.at_ := rfl
  rw [e2, e3, e4, clock_eq, index_eq _ _ _ _ hw ht (by omega) (by omega)]
  simp only [tupCV_eq, by8_length]
  unfold addW
  by_cases c1 : w.token.length > 8
  · rw [if_pos (.inl c1)]
    exact bifT (decide_eq_true (by omega))
  refine (bifF (decide_eq_false (by omega))).trans ?_
  cases c2 : pathOk w.path with
  | false => rw [if_pos (.inr rfl)]; rfl
  | true =>
    rw [if_neg (by simp [c1])]
    simp only [Bool.not_true, cond_false]
    cases c3 : ixf (W.is w.server w.token) 0 ws with
    | none =>
      simp only [ixI]
      refine (bifF (decide_eq_false (by omega))).trans ?_
      by_cases c4 : ws.length ≥ 6
      · rw [if_pos c4]
        refine (bifT (decide_eq_true (by omega))).trans ?_
        rw [takeMap0]
      · rw [if_neg c4]
        refine (bifF (decide_eq_false (by omega))).trans ?_
        refine (grdT (decide_eq_true (by omega))).trans ?_
        rw [takeMap, Nat.zero_add, take_all _ _ (by simp)]
        simp [W.fresh]
    | some i =>
      obtain ⟨-, hi, -, -⟩ := ixf_some c3
      simp only [ixI, Int.toNat_natCast, Nat.zero_add]
      refine (bifT (decide_eq_true (by omega))).trans ?_
      refine (grdT (decide_eq_true (by omega))).trans ?_
      refine (grdT (decide_eq_true (by omega))).trans ?_
      refine (grdT (decide_eq_true (by rw [List.length_map]; omega))).trans ?_
      rw [take_all _ _ (by simp), List.length_set, List.map_set]
      rfl
end
end Go.Proofs.YthlaobnnhghcfaaD
