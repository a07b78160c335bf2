/- Watches, in plain words: those that are dropped (printed by ph.py). -/
import Derived.Test.YthlaobnnhghcfaaPd
import Derived.Test.YthlaobnnhghcfaaLCopy
import Derived.Test.YthlaobnnhghcfaaPf
namespace Go.Proofs.YthlaobnnhghcfaaD
open Go Go.Proofs.YthlaobnnhghcfaaS Go.Proofs
set_option linter.unusedVariables false
set_option linter.unusedSimpArgs false
section
variable {X : Type}
theorem bAt {o : Option CV} {c : CV} (h : o = some c) (F : CV → Option X) : Option.bind o F = F c := by rw [h]; rfl
theorem by64_nth (a : List Int) (i : Nat) (h : i < a.length) : (by64 a)[i]? = some (.int .i64 a[i]) := by rw [by64_get, List.getElem?_eq_getElem h]; rfl
theorem sameInts_eq {k : Nat} (K : Bool → Option X) (a b : List Int) (hk : a.length < k) (hl : a.length < 4611686018427387904) : f39 k K (by64 a) (by64 b) = K (decide (a = b)) := by
  unfold f39 f39_A f39_T
  rw [by64_length, by64_length]
  by_cases hab : a.length = b.length
  · refine (bifF (by rw [hab]; exact bne_self_eq_false _)).trans ?_
    refine iterV_spec (T := f39_L1 k K) (fun i => (by64 a, by64 b, (i : Int))) (fun i => K (decide (a.drop i = b.drop i))) a.length (fun i rec h hr => ?_) (fun rec => ?_) k 0 (Nat.zero_le _) (by omega)
    · have hb : i < b.length := by omega
      unfold f39_L1 f39_T1
      dsimp only
      refine (bifT (decide_eq_true (by rw [by64_length]; omega))).trans ?_
      rw [Int.toNat_natCast]
      refine (grdT (dec0 _)).trans ?_
      refine (bAt (by64_nth a i h) _).trans ?_
      refine (grdT rfl).trans ?_
      refine (grdT (dec0 _)).trans ?_
      refine (bAt (by64_nth b i hb) _).trans ?_
      refine (grdT rfl).trans ?_
      rw [toI_int, toI_int, List.drop_eq_getElem_cons h, List.drop_eq_getElem_cons hb]
      by_cases e : a[i] = b[i]
      · refine (bifF (by rw [e]; exact bne_self_eq_false _)).trans ?_
        rw [wrap64_succ (by omega), hr]
        exact congrArg K (decide_eq_decide.2 ⟨fun h => by rw [h, e], fun h => (List.cons.inj h).2⟩)
      · refine (bifT (bne_iff_ne.2 e)).trans ?_
        rw [decide_eq_false fun h => e (List.cons.inj h).1]
    · unfold f39_L1 f39_T1
      dsimp only
      refine (bifF (decide_eq_false (by rw [by64_length]; omega))).trans ?_
      rw [List.drop_length, hab, List.drop_length, decide_eq_true rfl]
  · refine (bifT (bne_iff_ne.2 (by omega))).trans ?_
    rw [decide_eq_false fun e => hab (by rw [e])]
theorem equalInts_eq {k : Nat} (K : Bool → Option X) (a b : List Int) (hk : a.length < k) (hl : a.length < 4611686018427387904) : f44 k K (by64 a) (by64 b) = K (decide (a = b)) := by
  unfold f44 f44_A f44_T
  rw [by64_length, by64_length]
  by_cases hab : a.length = b.length
  · refine (bifF (by rw [hab]; exact bne_self_eq_false _)).trans ?_
    refine iterV_spec (T := f44_L1 k K) (fun i => (by64 a, by64 b, (a.length : Int), (i : Int))) (fun i => K (decide (a.drop i = b.drop i))) a.length (fun i rec h hr => ?_) (fun rec => ?_) k 0 (Nat.zero_le _) (by omega)
    · have hb : i < b.length := by omega
      unfold f44_L1 f44_T1
      dsimp only
      refine (bifT (decide_eq_true (by omega))).trans ?_
      rw [Int.toNat_natCast]
      refine (grdT (dec0 _)).trans ?_
      refine (bAt (by64_nth a i h) _).trans ?_
      refine (grdT rfl).trans ?_
      refine (grdT (dec0 _)).trans ?_
      refine (bAt (by64_nth b i hb) _).trans ?_
      refine (grdT rfl).trans ?_
      rw [toI_int, toI_int, List.drop_eq_getElem_cons h, List.drop_eq_getElem_cons hb]
      by_cases e : a[i] = b[i]
      · refine (bifF (by rw [e]; exact bne_self_eq_false _)).trans ?_
        rw [wrap64_succ (by omega), hr]
        exact congrArg K (decide_eq_decide.2 ⟨fun h => by rw [h, e], fun h => (List.cons.inj h).2⟩)
      · refine (bifT (bne_iff_ne.2 e)).trans ?_
        rw [decide_eq_false fun h => e (List.cons.inj h).1]
    · unfold f44_L1 f44_T1
      dsimp only
      refine (bifF (decide_eq_false (by omega))).trans ?_
      rw [List.drop_length, hab, List.drop_length, decide_eq_true rfl]
  · refine (bifT (bne_iff_ne.2 (by omega))).trans ?_
    rw [decide_eq_false fun e => hab (by rw [e])]
/-- Does a path begin so? -/
def beg (p q : List Int) : Bool := decide (q.length ≤ p.length) && decide (p.take q.length = q)
theorem by64_take (b : List Int) (n : Nat) : List.take n (by64 b) = by64 (b.take n) := by simp [by64, List.map_take]
theorem begins_eq {k : Nat} (K : Bool → Option X) (p q : List Int) (hk : q.length < k) (hl : q.length < 4611686018427387904) : f20 k K (by64 p) (by64 q) = K (beg p q) := by
  unfold f20 f20_A f20_T beg
  rw [by64_length, by64_length]
  by_cases h : q.length ≤ p.length
  · refine (bifT (decide_eq_true (by omega))).trans ?_
    refine (grdT (decide_eq_true (by omega))).trans ?_
    rw [Nat.sub_zero, List.drop_zero, by64_take]
    refine (sameInts_eq _ _ _ (by rw [List.length_take]; omega) (by rw [List.length_take]; omega)).trans ?_
    rw [decide_eq_true h]; rfl
  · refine (bifF (decide_eq_false (by omega))).trans ?_
    rw [decide_eq_false h]; rfl
theorem dfEnd (i n : Nat) (row : List CV) (z : CV) (hi : i ≤ n) (hn : row.length = n) : List.take i (List.take i row ++ List.replicate (n - i) z ++ List.drop (i + (n - i)) row) = List.take i row := by
  rw [List.append_assoc, List.take_append, List.take_take, List.length_take, Nat.min_self, show i - min i row.length = 0 from by omega, List.take_zero, List.append_nil]
theorem clP_eq {k : Nat} (K : Bool → Option X) (w : W) (hw : w.ok) (q : List Int) (hq : q.length < k) (hq2 : q.length < 1000000) : f43 k K w.cv (by64 q) = K (beg w.path q) := by
  have e : f43 k K w.cv (by64 q) = (bif decide (((by64 w.path).length : Int) ≥ ((by64 q).length : Int)) then grd (decide (((by64 q).length : Int) ≤ ((by64 w.path).length : Int))) (f44 k K (List.take ((by64 q).length - 0) (List.drop 0 (by64 w.path))) (by64 q)) else K false) := by kernel_rfl
  rw [e, by64_length, by64_length]
  unfold beg
  by_cases h : q.length ≤ w.path.length
  · refine (bifT (decide_eq_true (by omega))).trans ?_
    refine (grdT (decide_eq_true (by omega))).trans ?_
    rw [Nat.sub_zero, List.drop_zero, by64_take]
    refine (equalInts_eq _ _ _ (by rw [List.length_take]; omega) (by rw [List.length_take]; omega)).trans ?_
    rw [decide_eq_true h]; rfl
  · refine (bifF (decide_eq_false (by omega))).trans ?_
    rw [decide_eq_false h]; rfl
theorem ixP_eq {k : Nat} (K : Int → Option X) (ws : List W) (hw : Ws ws) (q : List Int) (hq : q.length < k) (hq2 : q.length < 1000000) (hk : ws.length < k) (hl : ws.length < 1000000) : f48b k K (ws.map W.cv) (by64 q) = K (ixI (ixf (fun w => beg w.path q) 0 ws)) := by
  refine ixLoop0 (T := f48b_L1 (fun X => @f43 X k) k K) (fun i => (ws.map W.cv, by64 q, ((ws.map W.cv).length : Int), (i : Int))) (fun w => beg w.path q) ws K (fun i rec h => ?_) (fun rec => ?_) k hk
  · unfold f48b_L1 f48b_T1
    dsimp only
    refine (bifT (decide_eq_true (by rw [List.length_map]; omega))).trans ?_
    refine (grdT (dec0 _)).trans ?_
    rw [Int.toNat_natCast]
    refine (bAt (map_get W.cv ws i h) _).trans ?_
    refine (clP_eq _ ws[i] (hw _ (List.getElem_mem h)) q hq hq2).trans ?_
    rw [wrap64_succ (by omega)]
  · unfold f48b_L1 f48b_T1
    dsimp only
    exact bifF (decide_eq_false (by rw [List.length_map]; omega))
theorem delP_eq {k : Nat} (K : Nat × List CV → Option X) (ws : List W) (hw : Ws ws) (q : List Int) (hq : q.length < k) (hq2 : q.length < 1000000) (hk : ws.length < k) (hl : ws.length < 1000000) : f51 k K ws.length (by64 q) (ws.map W.cv) = K ((ws.filter fun w => !(beg w.path q)).length, (ws.filter fun w => !(beg w.path q)).map W.cv) := by
  unfold f51 f51_A f51_T
  rw [List.drop_zero, takeMap]
  refine (ixP_eq _ ws hw q hq hq2 hk hl).trans ?_
  cases hx : ixf (fun w => beg w.path q) 0 ws with
  | none =>
    have e : (ws.filter fun w => !(beg w.path q)) = ws := List.filter_eq_self.2 fun w hwm => by
      have := ixf_none hx w hwm
      simpa using this
    rw [e]
    refine (bifT rfl).trans ?_
    rw [takeMap0]
  | some j0 =>
    obtain ⟨-, hj0, -, -⟩ := ixf_some hx
    have hfl := ixf_filter hx
    simp only [Nat.sub_zero] at hfl
    refine (bifF (by show ((j0 : Int) == -1) = false; rw [beq_eq_false_iff_ne]; omega)).trans ?_
    show iterV (f51_L1 (fun X => @f48b X k) (fun X => @f43 X k) k K) k (ws.length, by64 q, (j0 : Int), IntKind.wrap .i64 ((j0 : Int) + 1), ws.map W.cv) = _
    rw [wrap64_succ (by omega)]
    refine dfLoop (fun i j row => (ws.length, by64 q, (i : Int), (j : Int), row)) (fun w => beg w.path q) W.cv ws K (fun i j row rec h hij hrl hrow => ?_) (fun i row rec hi hrl => ?_) k j0 (j0 + 1) _ (by omega) (by omega) (by omega) (by rw [List.length_map]) (by rw [List.map_drop]) (by rw [← List.map_take, hfl])
    · unfold f51_L1 f51_T1 f51_J1
      dsimp only
      refine (bifT (decide_eq_true (by omega))).trans ?_
      refine (grdT (dec0 _)).trans ?_
      refine (grdT (decide_eq_true (by omega))).trans ?_
      rw [Int.toNat_natCast, Int.toNat_natCast, Nat.zero_add, Nat.zero_add]
      refine (bAt hrow _).trans ?_
      refine (grdT rfl).trans ?_
      refine (grdT rfl).trans ?_
      refine (grdT rfl).trans ?_
      refine (grdT rfl).trans ?_
      refine (grdT rfl).trans ?_
      refine (grdT rfl).trans ?_
      refine (grdT rfl).trans ?_
      refine (grdT rfl).trans ?_
      refine (grdT rfl).trans ?_
      refine (grdT rfl).trans ?_
      refine (grdT rfl).trans ?_
      refine (grdT rfl).trans ?_
      refine (grdT rfl).trans ?_
      refine (grdT rfl).trans ?_
      refine (grdT rfl).trans ?_
      refine (grdT rfl).trans ?_
      refine (grdT rfl).trans ?_
      refine (grdT rfl).trans ?_
      refine (grdT rfl).trans ?_
      refine (grdT rfl).trans ?_
      refine (grdT rfl).trans ?_
      refine (grdT rfl).trans ?_
      refine (clP_eq _ ws[j] (hw _ (List.getElem_mem h)) q hq hq2).trans ?_
      cases hp : ((fun w => beg w.path q) ws[j]) with
      | false =>
        refine (bifT (by first | rfl | (rw [show (beg ws[j].path q) = false from hp]; rfl))).trans ?_
        refine (grdT (dec0 _)).trans ?_
        refine (grdT (decide_eq_true (by omega))).trans ?_
        refine (grdT (decide_eq_true (by omega))).trans ?_
        rw [wrap64_succ (by omega), wrap64_succ (by omega)]
        refine Eq.trans ?_ (bifT (by first | rfl | (rw [show (beg ws[j].path q) = false from hp]; rfl))).symm
        rfl
      | true =>
        refine (bifF (by first | rfl | (rw [show (beg ws[j].path q) = true from hp]; rfl))).trans ?_
        rw [wrap64_succ (by omega)]
        refine Eq.trans ?_ (bifF (by first | rfl | (rw [show (beg ws[j].path q) = true from hp]; rfl))).symm
        rfl
    · unfold f51_L1 f51_T1
      dsimp only
      refine (bifF (decide_eq_false (by omega))).trans ?_
      simp only [Int.toNat_natCast, Nat.zero_add, Nat.sub_zero]
      refine (grdT (dec0 _)).trans ?_
      refine (grdT (decide_eq_true (by omega))).trans ?_
      refine (grdT (decide_eq_true (by omega))).trans ?_
      refine (grdT (decide_eq_true (by omega))).trans ?_
      refine (grdT (dec0 _)).trans ?_
      refine (grdT (decide_eq_true (by simp only [List.length_append, List.length_take, List.length_replicate, List.length_drop]; omega))).trans ?_
      rw [dfEnd i ws.length row _ hi hrl]
theorem clT_eq {k : Nat} (K : Bool → Option X) (w : W) (hw : w.ok) (s : Int) (q : List Int) (hq : Byt q) (hq2 : True) : f41 k K w.cv s (by8 q) = K (w.is s q) := by
  have e : f41 k K w.cv s (by8 q) = (bif w.server == s then f42 k K (by8 w.token) (by8 q) else K false) := by kernel_rfl
  rw [e, bytesEqual_eq _ _ _ hw.tok hq]
  unfold W.is
  cases w.server == s <;> rfl
theorem ixT_eq {k : Nat} (K : Int → Option X) (ws : List W) (hw : Ws ws) (s : Int) (q : List Int) (hq : Byt q) (hq2 : True) (hk : ws.length < k) (hl : ws.length < 1000000) : f48c k K (ws.map W.cv) s (by8 q) = K (ixI (ixf (W.is s q) 0 ws)) := by
  refine ixLoop0 (T := f48c_L1 (fun X => @f41 X k) k K) (fun i => (ws.map W.cv, s, by8 q, ((ws.map W.cv).length : Int), (i : Int))) (W.is s q) ws K (fun i rec h => ?_) (fun rec => ?_) k hk
  · unfold f48c_L1 f48c_T1
    dsimp only
    refine (bifT (decide_eq_true (by rw [List.length_map]; omega))).trans ?_
    refine (grdT (dec0 _)).trans ?_
    rw [Int.toNat_natCast]
    refine (bAt (map_get W.cv ws i h) _).trans ?_
    refine (clT_eq _ ws[i] (hw _ (List.getElem_mem h)) s q hq hq2).trans ?_
    rw [wrap64_succ (by omega)]
  · unfold f48c_L1 f48c_T1
    dsimp only
    exact bifF (decide_eq_false (by rw [List.length_map]; omega))
theorem delT_eq {k : Nat} (K : Nat × List CV → Option X) (ws : List W) (hw : Ws ws) (s : Int) (q : List Int) (hq : Byt q) (hq2 : True) (hk : ws.length < k) (hl : ws.length < 1000000) : f51b k K ws.length s (by8 q) (ws.map W.cv) = K ((ws.filter fun w => !(w.is s q)).length, (ws.filter fun w => !(w.is s q)).map W.cv) := by
  unfold f51b f51b_A f51b_T
  rw [List.drop_zero, takeMap]
  refine (ixT_eq _ ws hw s q hq hq2 hk hl).trans ?_
  cases hx : ixf (W.is s q) 0 ws with
  | none =>
    have e : (ws.filter fun w => !(w.is s q)) = ws := List.filter_eq_self.2 fun w hwm => by
      have := ixf_none hx w hwm
      simpa using this
    rw [e]
    refine (bifT rfl).trans ?_
    rw [takeMap0]
  | some j0 =>
    obtain ⟨-, hj0, -, -⟩ := ixf_some hx
    have hfl := ixf_filter hx
    simp only [Nat.sub_zero] at hfl
    refine (bifF (by show ((j0 : Int) == -1) = false; rw [beq_eq_false_iff_ne]; omega)).trans ?_
    show iterV (f51b_L1 (fun X => @f48c X k) (fun X => @f41 X k) k K) k (ws.length, s, by8 q, (j0 : Int), IntKind.wrap .i64 ((j0 : Int) + 1), ws.map W.cv) = _
    rw [wrap64_succ (by omega)]
    refine dfLoop (fun i j row => (ws.length, s, by8 q, (i : Int), (j : Int), row)) (W.is s q) W.cv ws K (fun i j row rec h hij hrl hrow => ?_) (fun i row rec hi hrl => ?_) k j0 (j0 + 1) _ (by omega) (by omega) (by omega) (by rw [List.length_map]) (by rw [List.map_drop]) (by rw [← List.map_take, hfl])
    · unfold f51b_L1 f51b_T1 f51b_J1
      dsimp only
      refine (bifT (decide_eq_true (by omega))).trans ?_
      refine (grdT (dec0 _)).trans ?_
      refine (grdT (decide_eq_true (by omega))).trans ?_
      rw [Int.toNat_natCast, Int.toNat_natCast, Nat.zero_add, Nat.zero_add]
      refine (bAt hrow _).trans ?_
      refine (grdT rfl).trans ?_
      refine (grdT rfl).trans ?_
      refine (grdT rfl).trans ?_
      refine (grdT rfl).trans ?_
      refine (grdT rfl).trans ?_
      refine (grdT rfl).trans ?_
      refine (grdT rfl).trans ?_
      refine (grdT rfl).trans ?_
      refine (grdT rfl).trans ?_
      refine (grdT rfl).trans ?_
      refine (grdT rfl).trans ?_
      refine (grdT rfl).trans ?_
      refine (grdT rfl).trans ?_
      refine (grdT rfl).trans ?_
      refine (grdT rfl).trans ?_
      refine (grdT rfl).trans ?_
      refine (grdT rfl).trans ?_
      refine (grdT rfl).trans ?_
      refine (grdT rfl).trans ?_
      refine (grdT rfl).trans ?_
      refine (grdT rfl).trans ?_
      refine (grdT rfl).trans ?_
      refine (clT_eq _ ws[j] (hw _ (List.getElem_mem h)) s q hq hq2).trans ?_
      cases hp : ((W.is s q) ws[j]) with
      | false =>
        refine (bifT (by first | rfl | (rw [show (ws[j].is s q) = false from hp]; rfl))).trans ?_
        refine (grdT (dec0 _)).trans ?_
        refine (grdT (decide_eq_true (by omega))).trans ?_
        refine (grdT (decide_eq_true (by omega))).trans ?_
        rw [wrap64_succ (by omega), wrap64_succ (by omega)]
        refine Eq.trans ?_ (bifT (by first | rfl | (rw [show (ws[j].is s q) = false from hp]; rfl))).symm
        rfl
      | true =>
        refine (bifF (by first | rfl | (rw [show (ws[j].is s q) = true from hp]; rfl))).trans ?_
        rw [wrap64_succ (by omega)]
        refine Eq.trans ?_ (bifF (by first | rfl | (rw [show (ws[j].is s q) = true from hp]; rfl))).symm
        rfl
    · unfold f51b_L1 f51b_T1
      dsimp only
      refine (bifF (decide_eq_false (by omega))).trans ?_
      simp only [Int.toNat_natCast, Nat.zero_add, Nat.sub_zero]
      refine (grdT (dec0 _)).trans ?_
      refine (grdT (decide_eq_true (by omega))).trans ?_
      refine (grdT (decide_eq_true (by omega))).trans ?_
      refine (grdT (decide_eq_true (by omega))).trans ?_
      refine (grdT (dec0 _)).trans ?_
      refine (grdT (decide_eq_true (by simp only [List.length_append, List.length_take, List.length_replicate, List.length_drop]; omega))).trans ?_
      rw [dfEnd i ws.length row _ hi hrl]
theorem clS_eq {k : Nat} (K : Bool → Option X) (w : W) (hw : w.ok) (s : Int) (hq : True) (hq2 : True) : f45 k K w.cv s = K (w.server == s) := by
  kernel_rfl
theorem ixS_eq {k : Nat} (K : Int → Option X) (ws : List W) (hw : Ws ws) (s : Int) (hq : True) (hq2 : True) (hk : ws.length < k) (hl : ws.length < 1000000) : f48d k K (ws.map W.cv) s = K (ixI (ixf (fun w => w.server == s) 0 ws)) := by
  refine ixLoop0 (T := f48d_L1 (fun X => @f45 X k) k K) (fun i => (ws.map W.cv, s, ((ws.map W.cv).length : Int), (i : Int))) (fun w => w.server == s) ws K (fun i rec h => ?_) (fun rec => ?_) k hk
  · unfold f48d_L1 f48d_T1
    dsimp only
    refine (bifT (decide_eq_true (by rw [List.length_map]; omega))).trans ?_
    refine (grdT (dec0 _)).trans ?_
    rw [Int.toNat_natCast]
    refine (bAt (map_get W.cv ws i h) _).trans ?_
    refine (clS_eq _ ws[i] (hw _ (List.getElem_mem h)) s hq hq2).trans ?_
    rw [wrap64_succ (by omega)]
  · unfold f48d_L1 f48d_T1
    dsimp only
    exact bifF (decide_eq_false (by rw [List.length_map]; omega))
theorem delS_eq {k : Nat} (K : Nat × List CV → Option X) (ws : List W) (hw : Ws ws) (s : Int) (hq : True) (hq2 : True) (hk : ws.length < k) (hl : ws.length < 1000000) : f51c k K ws.length s (ws.map W.cv) = K ((ws.filter fun w => !(w.server == s)).length, (ws.filter fun w => !(w.server == s)).map W.cv) := by
  unfold f51c f51c_A f51c_T
  rw [List.drop_zero, takeMap]
  refine (ixS_eq _ ws hw s hq hq2 hk hl).trans ?_
  cases hx : ixf (fun w => w.server == s) 0 ws with
  | none =>
    have e : (ws.filter fun w => !(w.server == s)) = ws := List.filter_eq_self.2 fun w hwm => by
      have := ixf_none hx w hwm
      simpa using this
    rw [e]
    refine (bifT rfl).trans ?_
    rw [takeMap0]
  | some j0 =>
    obtain ⟨-, hj0, -, -⟩ := ixf_some hx
    have hfl := ixf_filter hx
    simp only [Nat.sub_zero] at hfl
    refine (bifF (by show ((j0 : Int) == -1) = false; rw [beq_eq_false_iff_ne]; omega)).trans ?_
    show iterV (f51c_L1 (fun X => @f48d X k) (fun X => @f45 X k) k K) k (ws.length, s, (j0 : Int), IntKind.wrap .i64 ((j0 : Int) + 1), ws.map W.cv) = _
    rw [wrap64_succ (by omega)]
    refine dfLoop (fun i j row => (ws.length, s, (i : Int), (j : Int), row)) (fun w => w.server == s) W.cv ws K (fun i j row rec h hij hrl hrow => ?_) (fun i row rec hi hrl => ?_) k j0 (j0 + 1) _ (by omega) (by omega) (by omega) (by rw [List.length_map]) (by rw [List.map_drop]) (by rw [← List.map_take, hfl])
    · unfold f51c_L1 f51c_T1 f51c_J1
      dsimp only
      refine (bifT (decide_eq_true (by omega))).trans ?_
      refine (grdT (dec0 _)).trans ?_
      refine (grdT (decide_eq_true (by omega))).trans ?_
      rw [Int.toNat_natCast, Int.toNat_natCast, Nat.zero_add, Nat.zero_add]
      refine (bAt hrow _).trans ?_
      refine (grdT rfl).trans ?_
      refine (grdT rfl).trans ?_
      refine (grdT rfl).trans ?_
      refine (grdT rfl).trans ?_
      refine (grdT rfl).trans ?_
      refine (grdT rfl).trans ?_
      refine (grdT rfl).trans ?_
      refine (grdT rfl).trans ?_
      refine (grdT rfl).trans ?_
      refine (grdT rfl).trans ?_
      refine (grdT rfl).trans ?_
      refine (grdT rfl).trans ?_
      refine (grdT rfl).trans ?_
      refine (grdT rfl).trans ?_
      refine (grdT rfl).trans ?_
      refine (grdT rfl).trans ?_
      refine (grdT rfl).trans ?_
      refine (grdT rfl).trans ?_
      refine (grdT rfl).trans ?_
      refine (grdT rfl).trans ?_
      refine (grdT rfl).trans ?_
      refine (grdT rfl).trans ?_
      refine (clS_eq _ ws[j] (hw _ (List.getElem_mem h)) s hq hq2).trans ?_
      cases hp : ((fun w => w.server == s) ws[j]) with
      | false =>
        refine (bifT (by first | rfl | (rw [show (ws[j].server == s) = false from hp]; rfl))).trans ?_
        refine (grdT (dec0 _)).trans ?_
        refine (grdT (decide_eq_true (by omega))).trans ?_
        refine (grdT (decide_eq_true (by omega))).trans ?_
        rw [wrap64_succ (by omega), wrap64_succ (by omega)]
        refine Eq.trans ?_ (bifT (by first | rfl | (rw [show (ws[j].server == s) = false from hp]; rfl))).symm
        rfl
      | true =>
        refine (bifF (by first | rfl | (rw [show (ws[j].server == s) = true from hp]; rfl))).trans ?_
        rw [wrap64_succ (by omega)]
        refine Eq.trans ?_ (bifF (by first | rfl | (rw [show (ws[j].server == s) = true from hp]; rfl))).symm
        rfl
    · unfold f51c_L1 f51c_T1
      dsimp only
      refine (bifF (decide_eq_false (by omega))).trans ?_
      simp only [Int.toNat_natCast, Nat.zero_add, Nat.sub_zero]
      refine (grdT (dec0 _)).trans ?_
      refine (grdT (decide_eq_true (by omega))).trans ?_
      refine (grdT (decide_eq_true (by omega))).trans ?_
      refine (grdT (decide_eq_true (by omega))).trans ?_
      refine (grdT (dec0 _)).trans ?_
      refine (grdT (decide_eq_true (by simp only [List.length_append, List.length_take, List.length_replicate, List.length_drop]; omega))).trans ?_
      rw [dfEnd i ws.length row _ hi hrl]
theorem flen {α : Type} (p : α → Bool) (l : List α) : (l.filter p).length ≤ l.length := List.length_filter_le ..
theorem dropP_eq {k : Nat} (K : Int × Nat × List CV → Option X) (ws : List W) (hw : Ws ws) (q : List Int) (hq : q.length < k) (hq2 : q.length < 1000000) (hk : ws.length < k) (hl : ws.length < 1000000) : f22 k K (by64 q) ws.length (ws.map W.cv) = K ((ws.length : Int) - ((ws.filter fun w => !(beg w.path q)).length : Int), (ws.filter fun w => !(beg w.path q)).length, (ws.filter fun w => !(beg w.path q)).map W.cv) := by
  have hf := flen (fun w : W => !(beg w.path q)) ws
  have e : f22 k K (by64 q) ws.length (ws.map W.cv) = f51 k (fun u1 => K (IntKind.wrap .i64 ((ws.length : Int) - (u1.1 : Int)), u1.1, List.take (0 + u1.1) (List.take (0 + u1.1) u1.2))) ws.length (by64 q) (ws.map W.cv) := by kernel_rfl
  rw [e, delP_eq _ ws hw q hq hq2 hk hl]
  dsimp only
  rw [takeMap0, takeMap0, wrap64 (by omega) (by omega)]
theorem dropS_eq {k : Nat} (K : Int × Nat × List CV → Option X) (ws : List W) (hw : Ws ws) (s : Int) (hk : ws.length < k) (hl : ws.length < 1000000) : f23 k K s ws.length (ws.map W.cv) = K ((ws.length : Int) - ((ws.filter fun w => !(w.server == s)).length : Int), (ws.filter fun w => !(w.server == s)).length, (ws.filter fun w => !(w.server == s)).map W.cv) := by
  have hf := flen (fun w : W => !(w.server == s)) ws
  have e : f23 k K s ws.length (ws.map W.cv) = f51c k (fun u1 => K (IntKind.wrap .i64 ((ws.length : Int) - (u1.1 : Int)), u1.1, List.take (0 + u1.1) (List.take (0 + u1.1) u1.2))) ws.length s (ws.map W.cv) := by kernel_rfl
  rw [e, delS_eq _ ws hw s trivial trivial hk hl]
  dsimp only
  rw [takeMap0, takeMap0, wrap64 (by omega) (by omega)]
theorem dropT_eq {k : Nat} (K : Bool × Nat × List CV → Option X) (ws : List W) (hw : Ws ws) (s : Int) (q : List Int) (hq : Byt q) (hk : ws.length < k) (hl : ws.length < 1000000) : f21 k K s (by8 q) ws.length (ws.map W.cv) = K (decide ((ws.length : Int) - ((ws.filter fun w => !(w.is s q)).length : Int) > 0), (ws.filter fun w => !(w.is s q)).length, (ws.filter fun w => !(w.is s q)).map W.cv) := by
  have hf := flen (fun w : W => !(w.is s q)) ws
  have e : f21 k K s (by8 q) ws.length (ws.map W.cv) = f51b k (fun u1 => K (decide (IntKind.wrap .i64 ((ws.length : Int) - (u1.1 : Int)) > 0), u1.1, List.take (0 + u1.1) (List.take (0 + u1.1) u1.2))) ws.length s (by8 q) (ws.map W.cv) := by kernel_rfl
  rw [e, delT_eq _ ws hw s q hq trivial hk hl]
  dsimp only
  rw [takeMap0, takeMap0, wrap64 (by omega) (by omega)]
end
end Go.Proofs.YthlaobnnhghcfaaD
/- Watches, in plain words: all of them, the same ones, the document's answer when one is due (printed by pj.py). -/
namespace Go.Proofs.YthlaobnnhghcfaaD
open Go Go.Proofs.YthlaobnnhghcfaaS Go.Proofs
set_option linter.unusedVariables false
set_option linter.unusedSimpArgs false
section
variable {X : Type}
theorem len_eq {k : Nat} (K : Int × Nat × List CV → Option X) (ws : List W) : f28 k K ws.length (ws.map W.cv) = K ((ws.length : Int), ws.length, ws.map W.cv) := by
  have e : f28 k K ws.length (ws.map W.cv) = K ((ws.length : Int), ws.length, List.take (0 + ws.length) (ws.map W.cv)) := by kernel_rfl
  rw [e, takeMap0]
theorem t1c (c : CV) : List.take 1 (List.drop 0 [c]) = [c] := rfl
theorem takeI (ws : List W) (i : Nat) (h : i ≤ ws.length) : List.take i ((ws.take i).map W.cv) = (ws.take i).map W.cv := take_all _ _ (by rw [List.length_map, List.length_take]; omega)
theorem snocI (ws : List W) (i : Nat) (h : i < ws.length) : (ws.take i).map W.cv ++ [ws[i].cv] = (ws.take (i + 1)).map W.cv := by
  rw [← List.take_append_getElem h, List.map_append]; rfl
set_option maxRecDepth 100000 in
theorem all_eq {k : Nat} (K : Nat × Nat × List CV × List CV → Option X) (ws : List W) (hw : Ws ws) (hk : ws.length < k) (hl : ws.length < 1000) : f29 k K ws.length (ws.map W.cv) = K (ws.length, ws.length, ws.map W.cv, ws.map W.cv) := by
  refine iterV_spec (T := f29_L1 (fun X => @f31 X k) k K) (fun i => (i, ws.length, (ws.length : Int), (i : Int), (ws.take i).map W.cv, ws.length, ws.map W.cv)) (fun i => K (ws.length, ws.length, ws.map W.cv, ws.map W.cv)) ws.length (fun i rec h hr => ?_) (fun rec => ?_) k 0 (Nat.zero_le _) (by omega)
  · unfold f29_L1 f29_T1
    dsimp only
    refine (bifT (decide_eq_true (by omega))).trans ?_
    refine (grdT (dec0 _)).trans ?_
    refine (grdT (decide_eq_true (by omega))).trans ?_
    rw [Int.toNat_natCast, Nat.zero_add]
    refine (bAt (map_get W.cv ws i h) _).trans ?_
    refine (grdT rfl).trans ?_
    refine (grdT rfl).trans ?_
    refine (grdT rfl).trans ?_
    refine (grdT rfl).trans ?_
    refine (grdT rfl).trans ?_
    refine (grdT rfl).trans ?_
    refine (grdT rfl).trans ?_
    refine (grdT rfl).trans ?_
    refine (grdT rfl).trans ?_
    refine (grdT rfl).trans ?_
    refine (grdT rfl).trans ?_
    refine (grdT rfl).trans ?_
    refine (grdT rfl).trans ?_
    refine (grdT rfl).trans ?_
    refine (grdT rfl).trans ?_
    refine (grdT rfl).trans ?_
    refine (grdT rfl).trans ?_
    refine (grdT rfl).trans ?_
    refine (grdT rfl).trans ?_
    refine (grdT rfl).trans ?_
    refine (grdT rfl).trans ?_
    refine (grdT rfl).trans ?_
    have ho := hw _ (List.getElem_mem h)
    refine (copied_eq _ ws[i] ho.tokl ho.pathl ho.v.len).trans ?_
    have e2 : tupCV ws[i].tup ws[i].at_ ws[i].seq = ws[i].cv := tupCV_eq _ _ _
    refine (show _ = grd (decide ((i + 1) * 200 ≤ 140737488355328)) (rec (i + 1, ws.length, (ws.length : Int), IntKind.wrap .i64 ((i : Int) + 1), List.take i ((ws.take i).map W.cv) ++ [tupCV ws[i].tup ws[i].at_ ws[i].seq], ws.length, ws.map W.cv)) from rfl).trans ?_
    rw [e2, grdT (decide_eq_true (by omega)), wrap64_succ (by omega), takeI ws i (by omega), snocI ws i h, hr]
  · unfold f29_L1 f29_T1
    dsimp only
    refine (bifF (decide_eq_false (by omega))).trans ?_
    rw [List.take_length, takeMap0]
set_option maxRecDepth 100000 in
theorem as_eq {k : Nat} (K : Nat × List CV → Option X) (ws : List W) (hk : ws.length < k) (hl : ws.length < 1000) : f27 k K (ws.map W.cv) = K (ws.length, ws.map W.cv) := by
  refine iterV_spec (T := f27_L1 (fun X => @f19 X k) k K) (fun i => (i, ws.map W.cv, ((ws.map W.cv).length : Int), (i : Int), (ws.take i).map W.cv)) (fun i => K (ws.length, ws.map W.cv)) ws.length (fun i rec h hr => ?_) (fun rec => ?_) k 0 (Nat.zero_le _) (by omega)
  · unfold f27_L1 f27_T1
    dsimp only
    refine (bifT (decide_eq_true (by rw [List.length_map]; omega))).trans ?_
    refine (grdT (dec0 _)).trans ?_
    rw [Int.toNat_natCast]
    refine (bAt (map_get W.cv ws i h) _).trans ?_
    refine (grdT rfl).trans ?_
    refine (grdT rfl).trans ?_
    refine (grdT rfl).trans ?_
    refine (grdT rfl).trans ?_
    refine (grdT rfl).trans ?_
    refine (grdT rfl).trans ?_
    refine (grdT rfl).trans ?_
    refine (grdT rfl).trans ?_
    refine (grdT rfl).trans ?_
    refine (grdT rfl).trans ?_
    refine (grdT rfl).trans ?_
    refine (grdT rfl).trans ?_
    refine (grdT rfl).trans ?_
    refine (grdT rfl).trans ?_
    refine (grdT rfl).trans ?_
    refine (grdT rfl).trans ?_
    refine (grdT rfl).trans ?_
    refine (grdT rfl).trans ?_
    refine (grdT rfl).trans ?_
    refine (grdT rfl).trans ?_
    refine (grdT rfl).trans ?_
    refine (grdT rfl).trans ?_
    generalize hx : ws[i] = x
    refine (show _ = grd (decide ((i + 1) * 200 ≤ 140737488355328)) (rec (i + 1, ws.map W.cv, ((ws.map W.cv).length : Int), IntKind.wrap .i64 ((i : Int) + 1), List.take i ((ws.take i).map W.cv) ++ [x.cv])) from by kernel_rfl).trans ?_
    rw [← hx, grdT (decide_eq_true (by omega)), wrap64_succ (by omega), takeI ws i (by omega), snocI ws i h, hr]
  · unfold f27_L1 f27_T1
    dsimp only
    refine (bifF (decide_eq_false (by rw [List.length_map]; omega))).trans ?_
    rw [List.take_length, takeMap0]
theorem sameW_eq {k : Nat} (K : Bool → Option X) (ws : List W) (hw : ∀ w ∈ ws, w.token.length ≤ 1000 ∧ w.path.length ≤ 1000 ∧ w.v.b.length ≤ 1000) (hk : ws.length < 1000 ∧ 1000 < k) (hk2 : True) : f26 k K (ws.map W.cv) (ws.map W.cv) = K true := by
  unfold f26 f26_A f26_T
  refine (bifF (bne_self_eq_false _)).trans ?_
  refine iterV_spec (T := f26_L1 (fun X => @f16 X k) (fun X => @f39 X k) (fun X => @f15 X k) k K) (fun i => (ws.map W.cv, ws.map W.cv, (i : Int))) (fun i => K true) ws.length (fun i rec h hr => ?_) (fun rec => ?_) k 0 (Nat.zero_le _) (by omega)
  · unfold f26_L1 f26_T1
    dsimp only
    refine (bifT (decide_eq_true (by rw [List.length_map]; omega))).trans ?_
    rw [Int.toNat_natCast]
    refine (grdT (dec0 _)).trans ?_
    refine (bAt (map_get W.cv ws i h) _).trans ?_
    refine (grdT (dec0 _)).trans ?_
    refine (bAt (map_get W.cv ws i h) _).trans ?_
    refine (grdT rfl).trans ?_
    refine (grdT rfl).trans ?_
    refine (grdT rfl).trans ?_
    refine (grdT rfl).trans ?_
    refine (grdT rfl).trans ?_
    refine (grdT rfl).trans ?_
    refine (grdT rfl).trans ?_
    refine (grdT rfl).trans ?_
    refine (grdT rfl).trans ?_
    refine (grdT rfl).trans ?_
    refine (grdT rfl).trans ?_
    refine (grdT rfl).trans ?_
    refine (grdT rfl).trans ?_
    refine (grdT rfl).trans ?_
    refine (grdT rfl).trans ?_
    refine (grdT rfl).trans ?_
    refine (grdT rfl).trans ?_
    refine (grdT rfl).trans ?_
    refine (grdT rfl).trans ?_
    refine (grdT rfl).trans ?_
    refine (grdT rfl).trans ?_
    refine (grdT rfl).trans ?_
    refine (grdT rfl).trans ?_
    refine (grdT rfl).trans ?_
    refine (grdT rfl).trans ?_
    refine (grdT rfl).trans ?_
    refine (grdT rfl).trans ?_
    refine (grdT rfl).trans ?_
    refine (grdT rfl).trans ?_
    refine (grdT rfl).trans ?_
    refine (grdT rfl).trans ?_
    refine (grdT rfl).trans ?_
    refine (grdT rfl).trans ?_
    refine (grdT rfl).trans ?_
    refine (grdT rfl).trans ?_
    refine (grdT rfl).trans ?_
    refine (grdT rfl).trans ?_
    refine (grdT rfl).trans ?_
    refine (grdT rfl).trans ?_
    refine (grdT rfl).trans ?_
    refine (grdT rfl).trans ?_
    refine (grdT rfl).trans ?_
    refine (grdT rfl).trans ?_
    refine (grdT rfl).trans ?_
    have ho := hw _ (List.getElem_mem h)
    generalize ws[i] = x at ho
    refine (bifF (bne_self_eq_false _)).trans ?_
    refine (same_eq _ x.token x.token (by omega) (by omega)).trans ?_
    rw [decide_eq_true rfl]
    refine (bifF rfl).trans ?_
    refine (sameInts_eq _ x.path x.path (by omega) (by omega)).trans ?_
    rw [decide_eq_true rfl]
    refine (bifF rfl).trans ?_
    refine (bifF (by simp only [beq_self_eq_true, Bool.and_self, Bool.not_true])).trans ?_
    refine (refSame_eq _ x.v x.v (by omega) (by omega)).trans ?_
    rw [decide_eq_true rfl]
    refine (bifF rfl).trans ?_
    refine (bifF (bne_self_eq_false _)).trans ?_
    refine (bifF (bne_self_eq_false _)).trans ?_
    rw [wrap64_succ (by omega), hr]
  · unfold f26_L1 f26_T1
    dsimp only
    exact bifF (decide_eq_false (by rw [List.length_map]; omega))
/-- The tail of a step: as many, and the same. -/
theorem number_eq {k : Nat} (K : Bool → Option X) (v : Vl) : f52 k K v.cv = K v.num := by
  have e : f52 k K v.cv = (bif v.kind == 1 then K true else bif v.kind == 2 then K true else K (v.kind == 5)) := by kernel_rfl
  rw [e]
  unfold Vl.num
  cases v.kind == 1 <;> cases v.kind == 2 <;> cases v.kind == 5 <;> rfl
theorem far_symm (a b : Int) : far a b = far b a := by
  unfold far
  by_cases h : b ≥ a <;> by_cases h' : a ≥ b
  · have : a = b := by omega
    subst this; rfl
  · rw [if_pos h, if_neg h']
  · rw [if_neg h, if_pos h']
  · omega
theorem pass_symm (c : Cd) (a b : Int) : c.pass a b = c.pass b a := by
  unfold Cd.pass
  rw [far_symm a b]
  cases decide (a > c.gt) <;> cases decide (b > c.gt) <;> cases decide (a < c.lt) <;> cases decide (b < c.lt) <;> rfl
theorem dj2_eq {k : Nat} (K : Bool → Option X) (w : W) (a b : Int) (ha : I64 a) (hb : I64 b) (hab : a ≤ b) : f46_J2 (fun X => @f15 X k) (fun X => @f52 X k) k K (a, b) w.cv () = K (w.c.hasSt && decide (far a b ≥ w.c.st)) := by
  obtain ⟨ha1, ha2⟩ := ha
  obtain ⟨hb1, hb2⟩ := hb
  have hJ : ∀ d : Int, 0 ≤ d → d < 9223372036854775808 → f46_J1 (fun X => @f15 X k) (fun X => @f52 X k) k K w.cv d = K (w.c.hasSt && decide (d ≥ w.c.st)) := fun d h1 h2 => by
    have e : f46_J1 (fun X => @f15 X k) (fun X => @f52 X k) k K w.cv d = (bif w.c.hasSt then K (decide (IntKind.wrap .i64 d ≥ w.c.st)) else K false) := by kernel_rfl
    rw [e, wrap64 (by omega) (by omega)]
    cases w.c.hasSt <;> rfl
  unfold f46_J2
  dsimp only
  have hw : IntKind.wrap .u64 (IntKind.wrap .u64 b - IntKind.wrap .u64 a) = b - a := by
    rw [wrapU64, wrapU64, wrapU64]; omega
  rw [hw]
  unfold far
  rw [if_pos hab]
  by_cases h : b - a < 9223372036854775808
  · rw [if_pos h]
    refine (bifF (decide_eq_false (by omega))).trans ?_
    exact hJ _ (by omega) h
  · rw [if_neg h]
    refine (bifT (decide_eq_true (by omega))).trans ?_
    exact hJ _ (by omega) (by omega)
theorem dj3_eq {k : Nat} (K : Bool → Option X) (w : W) (a b : Int) (ha : I64 a) (hb : I64 b) (hab : a ≤ b) : f46_J3 (fun X => @f15 X k) (fun X => @f52 X k) k K w.cv (a, b) = K (w.c.pass a b) := by
  have e : f46_J3 (fun X => @f15 X k) (fun X => @f52 X k) k K w.cv (a, b) = (
      let S := f46_J2 (fun X => @f15 X k) (fun X => @f52 X k) k K (a, b) w.cv ()
      let Q := bif w.c.hasLt then (bif decide (a < w.c.lt) then (bif decide (b ≥ w.c.lt) then K true else S) else S) else S
      bif w.c.hasGt then (bif decide (a ≤ w.c.gt) then (bif decide (b > w.c.gt) then K true else Q) else Q) else Q) := by kernel_rfl
  rw [e, dj2_eq K w a b ha hb hab]
  unfold Cd.pass
  rw [show decide (a ≤ w.c.gt) = !decide (a > w.c.gt) from by by_cases h : a > w.c.gt <;> simp [h] <;> omega]
  rw [show decide (b ≥ w.c.lt) = !decide (b < w.c.lt) from by by_cases h : b < w.c.lt <;> simp [h] <;> omega]
  have c1 : decide (a > w.c.gt) = true → decide (b > w.c.gt) = true := fun h => by
    have := of_decide_eq_true h
    exact decide_eq_true (by omega)
  have c2 : decide (b < w.c.lt) = true → decide (a < w.c.lt) = true := fun h => by
    have := of_decide_eq_true h
    exact decide_eq_true (by omega)
  generalize decide (a > w.c.gt) = p1 at c1 ⊢
  generalize decide (b > w.c.gt) = p2 at c1 ⊢
  generalize decide (a < w.c.lt) = q1 at c2 ⊢
  generalize decide (b < w.c.lt) = q2 at c2 ⊢
  generalize (w.c.hasSt && decide (far a b ≥ w.c.st)) = s
  cases w.c.hasGt <;> cases w.c.hasLt <;> cases p1 <;> cases p2 <;> cases q1 <;> cases q2 <;> first | rfl | (exact absurd (c1 rfl) (by decide)) | (exact absurd (c2 rfl) (by decide))
set_option maxRecDepth 100000 in
theorem dj5_eq {k : Nat} (K : Bool → Option X) (w : W) (v : Vl) (now : Int) (hw : w.v.ok) (hv : v.ok) (hk : w.v.b.length < k) : f46_J5 (fun X => @f15 X k) (fun X => @f52 X k) k K (now, v.kind, v.n, v.s, by8 v.b, v.obj, v.inst) w.cv () = K (w.c.turn w.v v) := by
  have e : f46_J5 (fun X => @f15 X k) (fun X => @f52 X k) k K (now, v.kind, v.n, v.s, by8 v.b, v.obj, v.inst) w.cv () = f15 k (fun r =>
      let J4 := bif decide (w.v.n > v.n) then f46_J3 (fun X => @f15 X k) (fun X => @f52 X k) k K w.cv (v.n, w.v.n) else f46_J3 (fun X => @f15 X k) (fun X => @f52 X k) k K w.cv (w.v.n, v.n)
      let N := f52 k (fun a => bif !a then K true else f52 k (fun b => bif !b then K true else J4) v.cv) w.v.cv
      bif r then K false else bif !w.c.hasGt then (bif !w.c.hasLt then (bif !w.c.hasSt then K true else N) else N) else N) w.v.cv v.cv := by kernel_rfl
  have eJ : (bif decide (w.v.n > v.n) then f46_J3 (fun X => @f15 X k) (fun X => @f52 X k) k K w.cv (v.n, w.v.n) else f46_J3 (fun X => @f15 X k) (fun X => @f52 X k) k K w.cv (w.v.n, v.n)) = K (w.c.pass w.v.n v.n) := by
    by_cases h : w.v.n > v.n
    · refine (bifT (decide_eq_true h)).trans ?_
      rw [dj3_eq K w v.n w.v.n hv.n hw.n (by omega), pass_symm]
    · refine (bifF (decide_eq_false h)).trans ?_
      exact dj3_eq K w w.v.n v.n hw.n hv.n (by omega)
  rw [e, refSame_eq _ _ _ hk (by have := hw.len; omega)]
  simp only [number_eq, eJ]
  unfold Cd.turn
  cases decide (w.v = v) <;> cases w.c.hasGt <;> cases w.c.hasLt <;> cases w.c.hasSt <;> cases w.v.num <;> cases v.num <;> rfl
theorem refDue_eq {k : Nat} (K : Bool → Option X) (w : W) (v : Vl) (now : Int) (hw : w.ok) (hv : v.ok) (hk : w.v.b.length < k) (h0 : 0 ≤ now) (h1 : now ≤ 1099511627776) : f46 k K w.cv v.cv now = K (w.due v now) := by
  unfold f46 f46_A f46_T
  refine (grdT rfl).trans ?_
  refine (grdT rfl).trans ?_
  refine (grdT rfl).trans ?_
  refine (grdT rfl).trans ?_
  refine (grdT rfl).trans ?_
  refine (grdT rfl).trans ?_
  refine (grdT rfl).trans ?_
  refine (grdT rfl).trans ?_
  refine (grdT rfl).trans ?_
  refine (grdT rfl).trans ?_
  refine (grdT rfl).trans ?_
  refine (grdT rfl).trans ?_
  refine (grdT rfl).trans ?_
  refine (grdT rfl).trans ?_
  refine (grdT rfl).trans ?_
  refine (grdT rfl).trans ?_
  refine (grdT rfl).trans ?_
  refine (grdT rfl).trans ?_
  refine (grdT rfl).trans ?_
  refine (grdT rfl).trans ?_
  refine (grdT rfl).trans ?_
  refine (grdT rfl).trans ?_
  refine (grdT rfl).trans ?_
  refine (grdT rfl).trans ?_
  refine (grdT rfl).trans ?_
  refine (grdT rfl).trans ?_
  refine (grdT rfl).trans ?_
  refine (grdT rfl).trans ?_
  refine (grdT rfl).trans ?_
  have g0 := hw.at0
  have g1 := hw.at1
  unfold W.due
  by_cases c0 : now < w.at_
  · refine (bifT (decide_eq_true c0)).trans ?_
    rw [bifT (b := decide (now - w.at_ < (if w.c.hasMin = true ∧ w.c.pmin > 1 then w.c.pmin else 1))) (decide_eq_true (by split <;> omega))]
    unfold f46_J7
    exact bifT (decide_eq_true (by show IntKind.wrap .i64 (w.at_ - w.at_) < 1; rw [Int.sub_self]; decide))
  · refine (bifF (decide_eq_false c0)).trans ?_
    have e7 : f46_J7 (fun X => @f15 X k) (fun X => @f52 X k) k K w.cv (now, v.kind, v.n, v.s, by8 v.b, v.obj, v.inst) = (
        let J5 := f46_J5 (fun X => @f15 X k) (fun X => @f52 X k) k K (now, v.kind, v.n, v.s, by8 v.b, v.obj, v.inst) w.cv ()
        let J6 := bif w.c.hasMax then (bif decide (w.c.pmax > 0) then (bif decide (IntKind.wrap .i64 (now - w.at_) ≥ w.c.pmax) then K true else J5) else J5) else J5
        bif decide (IntKind.wrap .i64 (now - w.at_) < 1) then K false else bif w.c.hasMin then (bif decide (IntKind.wrap .i64 (now - w.at_) < w.c.pmin) then K false else J6) else J6) := by kernel_rfl
    refine (show _ = _ from e7).trans ?_
    rw [dj5_eq K w v now hw.v hv hk, wrap64 (n := now - w.at_) (by omega) (by omega)]
    have ed : decide (now - w.at_ < (if w.c.hasMin = true ∧ w.c.pmin > 1 then w.c.pmin else 1)) = (decide (now - w.at_ < 1) || (w.c.hasMin && decide (now - w.at_ < w.c.pmin))) := by
      cases w.c.hasMin with
      | true =>
        simp only [true_and, Bool.true_and]
        split
        · by_cases a : now - w.at_ < w.c.pmin
          · rw [decide_eq_true a, Bool.or_true]
          · rw [decide_eq_false a, decide_eq_false (show ¬ now - w.at_ < 1 by omega)]; rfl
        · by_cases a : now - w.at_ < 1
          · rw [decide_eq_true a]; rfl
          · rw [decide_eq_false a, decide_eq_false (show ¬ now - w.at_ < w.c.pmin by omega)]; rfl
      | false => simp
    rw [ed]
    generalize decide (now - w.at_ < 1) = a
    generalize decide (now - w.at_ < w.c.pmin) = b
    generalize decide (now - w.at_ ≥ w.c.pmax) = c
    generalize decide (w.c.pmax > 0) = d
    generalize w.c.turn w.v v = t
    cases w.c.hasMin <;> cases w.c.hasMax <;> cases a <;> cases b <;> cases c <;> cases d <;> rfl
end
end Go.Proofs.YthlaobnnhghcfaaD
/- Watches, in plain words: the document's answer for what is told, added, turned (printed by pk.py). -/
namespace Go.Proofs.YthlaobnnhghcfaaD
open Go Go.Proofs.YthlaobnnhghcfaaS Go.Proofs
set_option linter.unusedVariables false
set_option linter.unusedSimpArgs false
section
variable {X : Type}
theorem rightR_eq {k : Nat} (K : Bool → Option X) (p : List Int) (hk : p.length < k) (hl : p.length < 4611686018427387904) : f37 k K (by64 p) = K (pathOk p) := by
  unfold f37 f37_A f37_T
  rw [by64_length]
  by_cases h3 : (p.length : Int) > 3
  · have : pathOk p = false := by unfold pathOk; rw [decide_eq_false (show ¬ p.length ≤ 3 by omega), Bool.and_false]
    rw [this]
    exact bifT (decide_eq_true h3)
  refine (bifF (decide_eq_false h3)).trans ?_
  have hp : pathOk p = p.all (fun x => !(decide (x < 0) || decide (x > 65535))) := by unfold pathOk; rw [decide_eq_true (show p.length ≤ 3 by omega), Bool.and_true]
  rw [hp]
  refine iterV_spec (T := f37_L1 k K) (fun i => (by64 p, (i : Int))) (fun i => K ((p.drop i).all (fun x => !(decide (x < 0) || decide (x > 65535))))) p.length (fun i rec h hr => ?_) (fun rec => ?_) k 0 (Nat.zero_le _) (by omega)
  · unfold f37_L1 f37_T1
    dsimp only
    refine (bifT (decide_eq_true (by rw [by64_length]; omega))).trans ?_
    rw [Int.toNat_natCast]
    refine (grdT (dec0 _)).trans ?_
    refine (bAt (by64_nth p i h) _).trans ?_
    refine (grdT rfl).trans ?_
    rw [toI_int, all_drop _ _ _ h]
    by_cases c1 : p[i] < 0
    · refine (bifT (decide_eq_true c1)).trans ?_
      rw [decide_eq_true c1]; rfl
    · refine (bifF (decide_eq_false c1)).trans ?_
      refine (grdT (dec0 _)).trans ?_
      refine (bAt (by64_nth p i h) _).trans ?_
      refine (grdT rfl).trans ?_
      rw [toI_int, decide_eq_false c1]
      by_cases c2 : p[i] > 65535
      · refine (bifT (decide_eq_true c2)).trans ?_
        rw [decide_eq_true c2]; rfl
      · refine (bifF (decide_eq_false c2)).trans ?_
        rw [decide_eq_false c2, wrap64_succ (by omega), hr]; rfl
  · unfold f37_L1 f37_T1
    dsimp only
    refine (bifF (decide_eq_false (by rw [by64_length]; omega))).trans ?_
    rw [List.drop_length]; rfl
theorem clockR_eq {k : Nat} (K : Int → Option X) (x : Int) : f36 k K x = K (ck x) := by
  have e : f36 k K x = (bif decide (x < 0) then K 0 else bif decide (x > 1099511627776) then K 1099511627776 else K x) := by kernel_rfl
  rw [e]
  unfold ck
  by_cases h : x < 0
  · rw [if_pos h]; exact bifT (decide_eq_true h)
  · rw [if_neg h]
    refine (bifF (decide_eq_false h)).trans ?_
    by_cases h' : x > 1099511627776
    · rw [if_pos h']; exact bifT (decide_eq_true h')
    · rw [if_neg h']; exact bifF (decide_eq_false h')
set_option maxRecDepth 100000 in
theorem pj2_eq {k : Nat} (K : Nat × Nat × List CV × List CV → Option X) (rec : List CV × List CV × Int × Nat × Nat × Int × List CV × List CV → Option X) (A B orow trow : List CV) (now : Int) (on tn i : Nat) (w : W) (v : Vl) (hw : w.ok) (hv : v.ok) (hk : w.v.b.length < k) (h0 : 0 ≤ now) (h1 : now ≤ 1099511627776) (hon : orow.length = on) (hon2 : on < 1000) (htn : trow.length = tn) (htn2 : tn < 1000) (hi : i < 1000) :
    f25_J2 (fun X => @f36 X k) (fun X => @f46 X k) k K w.cv rec (A, B, now, on, tn, (i : Int), orow, trow) (v.kind, v.n, v.s, by8 v.b, v.obj, v.inst) =
      bif w.due v now then rec (A, B, now, on + 1, tn + 1, ((i + 1 : Nat) : Int), orow ++ [(w.told now v).cv], trow ++ [(w.told now v).cv]) else rec (A, B, now, on + 1, tn, ((i + 1 : Nat) : Int), orow ++ [w.cv], trow) := by
  unfold f25_J2
  refine (refDue_eq _ w v now hw hv hk h0 h1).trans ?_
  cases w.due v now with
  | false =>
    refine (bifF rfl).trans ?_
    refine (show _ = grd (decide ((on + 1) * 200 ≤ 140737488355328)) (rec (A, B, now, on + 1, tn, IntKind.wrap .i64 ((i : Int) + 1), List.take on orow ++ [w.cv], trow)) from by kernel_rfl).trans ?_
    rw [grdT (decide_eq_true (by omega)), wrap64_succ (by omega), take_all _ _ (by omega)]; rfl
  | true =>
    refine (bifT rfl).trans ?_
    refine (show _ = grd (decide ((tn + 1) * 200 ≤ 140737488355328)) (grd (decide ((on + 1) * 200 ≤ 140737488355328)) (rec (A, B, now, on + 1, tn + 1, IntKind.wrap .i64 ((i : Int) + 1), List.take on orow ++ [({ w with v := v, at_ := now, seq := Int.tmod (IntKind.wrap .i64 (w.seq + 1)) 16777216 } : W).cv], List.take tn trow ++ [({ w with v := v, at_ := now, seq := Int.tmod (IntKind.wrap .i64 (w.seq + 1)) 16777216 } : W).cv]))) from by kernel_rfl).trans ?_
    have hs : Int.tmod (IntKind.wrap .i64 (w.seq + 1)) 16777216 = (w.seq + 1) % 16777216 := by
      have := hw.seq0
      have := hw.seq1
      rw [wrap64 (by omega) (by omega), tmod_eq (by omega)]
    rw [hs, grdT (decide_eq_true (by omega)), grdT (decide_eq_true (by omega)), wrap64_succ (by omega), take_all _ _ (by omega), take_all _ _ (by omega)]; rfl
set_option maxRecDepth 100000 in
theorem passR_eq {k : Nat} (K : Nat × Nat × List CV × List CV → Option X) (ws : List W) (vs : List Vl) (t : Int) (hw : Ws ws) (hv : ∀ v ∈ vs, v.ok) (hl : ws.length < 1000) (hk : ws.length < k) (hb : ∀ w ∈ ws, w.v.b.length < k) :
    f25 k K (ws.map W.cv) (vs.map Vl.cv) t = K (ws.length, (passN (ck t) ws vs ws.length).2.length, (passN (ck t) ws vs ws.length).1.map W.cv, (passN (ck t) ws vs ws.length).2.map W.cv) := by
  obtain ⟨t0, t1⟩ := ck_b t
  unfold f25 f25_A f25_T
  refine (clockR_eq _ t).trans ?_
  generalize ck t = now at t0 t1
  refine iterV_spec (T := f25_L1 (fun X => @f36 X k) (fun X => @f46 X k) k K) (fun i => (ws.map W.cv, vs.map Vl.cv, now, i, (passN now ws vs i).2.length, (i : Int), (passN now ws vs i).1.map W.cv, (passN now ws vs i).2.map W.cv)) (fun _ => K (ws.length, (passN now ws vs ws.length).2.length, (passN now ws vs ws.length).1.map W.cv, (passN now ws vs ws.length).2.map W.cv)) ws.length (fun i rec hi hr => ?_) (fun rec => ?_) k 0 (Nat.zero_le _) (by omega)
  · have hln := passN_len now ws vs i (by omega)
    have hle := passN_le now ws vs i
    have hwo := hw _ (List.getElem_mem hi)
    have hbo := hb _ (List.getElem_mem hi)
    have hvo : ((vs[i]?).getD ws[i].v).ok := by
      cases ev : vs[i]? with
      | none => exact hwo.v
      | some v => exact hv v (List.mem_of_getElem? ev)
    have fin : (bif ws[i].due ((vs[i]?).getD ws[i].v) now then rec (ws.map W.cv, vs.map Vl.cv, now, i + 1, (passN now ws vs i).2.length + 1, ((i + 1 : Nat) : Int), (passN now ws vs i).1.map W.cv ++ [(ws[i].told now ((vs[i]?).getD ws[i].v)).cv], (passN now ws vs i).2.map W.cv ++ [(ws[i].told now ((vs[i]?).getD ws[i].v)).cv])
        else rec (ws.map W.cv, vs.map Vl.cv, now, i + 1, (passN now ws vs i).2.length, ((i + 1 : Nat) : Int), (passN now ws vs i).1.map W.cv ++ [ws[i].cv], (passN now ws vs i).2.map W.cv)) = K (ws.length, (passN now ws vs ws.length).2.length, (passN now ws vs ws.length).1.map W.cv, (passN now ws vs ws.length).2.map W.cv) := by
      rw [← hr]
      have ep : passN now ws vs (i + 1) = (bif ws[i].due ((vs[i]?).getD ws[i].v) now then ((passN now ws vs i).1 ++ [ws[i].told now ((vs[i]?).getD ws[i].v)], (passN now ws vs i).2 ++ [ws[i].told now ((vs[i]?).getD ws[i].v)]) else ((passN now ws vs i).1 ++ [ws[i]], (passN now ws vs i).2)) := by
        conv => lhs; unfold passN
        rw [List.getElem?_eq_getElem hi]
      rw [ep]
      cases ws[i].due ((vs[i]?).getD ws[i].v) now with
      | true => simp only [cond_true, List.length_append, List.length_singleton, List.map_append, List.map_cons, List.map_nil]
      | false => simp only [cond_false, List.map_append, List.map_cons, List.map_nil]
    unfold f25_L1 f25_T1
    dsimp only
    refine (bifT (decide_eq_true (by rw [List.length_map]; omega))).trans ?_
    refine (grdT (dec0 _)).trans ?_
    rw [Int.toNat_natCast]
    refine (bAt (map_get W.cv ws i hi) _).trans ?_
    refine (grdT rfl).trans ?_
    refine (grdT rfl).trans ?_
    refine (grdT rfl).trans ?_
    refine (grdT rfl).trans ?_
    refine (grdT rfl).trans ?_
    refine (grdT rfl).trans ?_
    refine (grdT rfl).trans ?_
    refine (grdT rfl).trans ?_
    refine (grdT rfl).trans ?_
    refine (grdT rfl).trans ?_
    refine (grdT rfl).trans ?_
    refine (grdT rfl).trans ?_
    refine (grdT rfl).trans ?_
    refine (grdT rfl).trans ?_
    refine (grdT rfl).trans ?_
    refine (grdT rfl).trans ?_
    refine (grdT rfl).trans ?_
    refine (grdT rfl).trans ?_
    refine (grdT rfl).trans ?_
    refine (grdT rfl).trans ?_
    refine (grdT rfl).trans ?_
    refine (grdT rfl).trans ?_
    rw [List.length_map]
    cases ev : vs[i]? with
    | none =>
      have : ¬ i < vs.length := fun h => by rw [List.getElem?_eq_getElem h] at ev; cases ev
      refine (bifF (decide_eq_false (by omega))).trans ?_
      rw [ev] at hvo fin
      exact (pj2_eq K rec _ _ _ _ now _ _ i ws[i] ws[i].v hwo hvo hbo t0 t1 (by rw [List.length_map]; exact hln) (by omega) (List.length_map ..) (by omega) (by omega)).trans fin
    | some v =>
      have hv' : i < vs.length := (List.getElem?_eq_some_iff.1 ev).1
      refine (bifT (decide_eq_true (by omega))).trans ?_
      refine (grdT (dec0 _)).trans ?_
      refine (bAt (show (vs.map Vl.cv)[i]? = some v.cv from by rw [List.getElem?_map, ev]; rfl) _).trans ?_
      refine (grdT rfl).trans ?_
      refine (grdT rfl).trans ?_
      refine (grdT rfl).trans ?_
      refine (grdT rfl).trans ?_
      refine (grdT rfl).trans ?_
      refine (grdT rfl).trans ?_
      refine (grdT rfl).trans ?_
      rw [ev] at hvo fin
      exact (pj2_eq K rec _ _ _ _ now _ _ i ws[i] v hwo hvo hbo t0 t1 (by rw [List.length_map]; exact hln) (by omega) (List.length_map ..) (by omega) (by omega)).trans fin
  · unfold f25_L1 f25_T1
    dsimp only
    refine (bifF (decide_eq_false (by rw [List.length_map]; omega))).trans ?_
    have hln := passN_len now ws vs ws.length (Nat.le_refl _)
    rw [Nat.zero_add, Nat.zero_add, take_all (List.map W.cv (passN now ws vs ws.length).1) _ (by rw [List.length_map]; omega), takeMap]
/-- Keys. -/
def keys (ws : List W) : List (Int × List Int) := ws.map fun w => (w.server, w.token)
def repl (w f : W) (ws : List W) : List W := ws.map fun x => bif x.is w.server w.token then f else x
theorem is_key {s : Int} {t : List Int} {x : W} : x.is s t = true ↔ (x.server, x.token) = (s, t) := by
  unfold W.is
  rw [Bool.and_eq_true, beq_iff_eq, decide_eq_true_eq, Prod.mk.injEq]
abbrev StA := Nat × Nat × Bool × Int × Int × List CV × List CV × Int × Int × Bool × Bool × Int × Int × Int × Bool × Bool × Bool × Int × Int × ByteArray × List CV × Int × Int × Int × List CV × List CV
def stA (w : W) (n on : Nat) (dn : Bool) (i : Int) (out row : List CV) : StA := (n, on, dn, i, w.server, by8 w.token, by64 w.path, w.c.pmin, w.c.pmax, w.c.hasMin, w.c.hasMax, w.c.gt, w.c.lt, w.c.st, w.c.hasGt, w.c.hasLt, w.c.hasSt, w.v.kind, w.v.n, w.v.s, by8 w.v.b, w.v.obj, w.v.inst, ck w.at_, out, row)
set_option maxRecDepth 100000 in
theorem addStep {k : Nat} (K : Nat × Int × List CV → Option X) (rec : StA → Option X) (w x : W) (n i : Nat) (dn : Bool) (out row : List CV) (hrow : row[i]? = some x.cv) (hi : i < n) (ho : out.length = i) (hn : n < 1000) (hx : x.token.length < k) (hx2 : x.token.length < 4611686018427387904) :
    f18_T1 (fun X => @f37 X k) (fun X => @f36 X k) (fun X => @f38 X k) (fun X => @f16 X k) k K rec (stA w n i dn (i : Int) out row) =
      bif x.is w.server w.token then rec (stA w n (i + 1) true ((i + 1 : Nat) : Int) (out ++ [w.fresh.cv]) row) else rec (stA w n (i + 1) dn ((i + 1 : Nat) : Int) (out ++ [x.cv]) row) := by
  have hother : ∀ e, e = x.cv → (grd (decide ((i + (List.length (List.take 1 (List.drop 0 [e])))) * 200 ≤ 140737488355328)) (f18_J1 (fun X => @f37 X k) (fun X => @f36 X k) (fun X => @f38 X k) (fun X => @f16 X k) k K rec (stA w n i dn (i : Int) out row) (i + (List.length (List.take 1 (List.drop 0 [e]))), dn, (List.take i out ++ List.take 1 (List.drop 0 [e]))))) = rec (stA w n (i + 1) dn ((i + 1 : Nat) : Int) (out ++ [x.cv]) row) := fun e he => by
    subst he
    rw [t1c]
    refine (grdT (decide_eq_true (by simp; omega))).trans ?_
    rw [take_all _ _ (by omega), ← wrap64_succ (n := i) (by omega)]
    rfl
  unfold f18_T1
  refine (bifT (decide_eq_true (show (i : Int) < (n : Int) by omega))).trans ?_
  refine (grdT (dec0 i)).trans ?_
  refine (grdT (decide_eq_true (show (i : Int) < (n : Int) by omega))).trans ?_
  have hrow' : row[0 + (Int.toNat (i : Int))]? = some x.cv := by rw [Nat.zero_add, Int.toNat_natCast]; exact hrow
  refine (bAt hrow' _).trans ?_
  refine (bAt (show CV.cell x.cv 0 = some (.int .i64 x.server) from rfl) _).trans ?_
  refine (grdT rfl).trans ?_
  unfold W.is
  by_cases h : x.server = w.server
  · rw [beq_iff_eq.2 h, Bool.true_and]
    refine (bifT (beq_iff_eq.2 h)).trans ?_
    refine (grdT (dec0 i)).trans ?_
    refine (grdT (decide_eq_true (show (i : Int) < (n : Int) by omega))).trans ?_
    refine (bAt hrow' _).trans ?_
    refine (bAt (show CV.cell x.cv 1 = some (.slc none (by8 x.token)) from rfl) _).trans ?_
    refine (grdT rfl).trans ?_
    refine (same_eq _ x.token w.token hx hx2).trans ?_
    cases decide (x.token = w.token) with
    | true =>
      refine (bifT rfl).trans ?_
      refine (grdT (decide_eq_true (show (i + 1) * 200 ≤ 140737488355328 by omega))).trans ?_
      refine (show _ = rec (stA w n (i + 1) true (IntKind.wrap .i64 ((i : Int) + 1)) (List.take i out ++ [w.fresh.cv]) row) from rfl).trans ?_
      rw [take_all _ _ (by omega), wrap64_succ (by omega)]; rfl
    | false =>
      refine (bifF rfl).trans ?_
      refine (grdT (dec0 i)).trans ?_
      refine (grdT (decide_eq_true (show (i : Int) < (n : Int) by omega))).trans ?_
      refine (bAt hrow' _).trans ?_
      refine (grdT rfl).trans ?_
      exact hother _ rfl
  · rw [beq_eq_false_iff_ne.2 h, Bool.false_and]
    refine (bifF (beq_eq_false_iff_ne.2 h)).trans ?_
    refine (grdT (dec0 i)).trans ?_
    refine (grdT (decide_eq_true (show (i : Int) < (n : Int) by omega))).trans ?_
    refine (bAt hrow' _).trans ?_
    refine (grdT rfl).trans ?_
    exact hother _ rfl
end
end Go.Proofs.YthlaobnnhghcfaaD
/- Watches, in plain words: added and turned, by keys (printed by pl.py). -/
namespace Go.Proofs.YthlaobnnhghcfaaD
open Go Go.Proofs.YthlaobnnhghcfaaS Go.Proofs
set_option linter.unusedVariables false
set_option linter.unusedSimpArgs false
section
variable {X : Type}
theorem setMap {ws : List W} (hu : (keys ws).Nodup) {s : Int} {t : List Int} {j : Nat} (hj : ixf (W.is s t) 0 ws = some j) (hjl : j < ws.length) (f : W → W) : ws.set j (f ws[j]) = ws.map fun x => bif x.is s t then f x else x := by
  obtain ⟨-, -, ⟨a, ha, hpa⟩, -⟩ := ixf_some hj
  rw [Nat.sub_zero, List.getElem?_eq_getElem hjl] at ha
  cases ha
  refine List.ext_getElem (by simp) fun i h1 h2 => ?_
  rw [List.getElem_set, List.getElem_map]
  have hi : i < ws.length := by simpa using h1
  by_cases e : j = i
  · subst e
    rw [if_pos rfl, hpa]; rfl
  · rw [if_neg e]
    cases hp : ws[i].is s t with
    | false => rfl
    | true =>
      exfalso
      have k1 := is_key.1 hpa
      have k2 := is_key.1 hp
      have hd := List.pairwise_iff_getElem.1 hu
      have lk : (keys ws).length = ws.length := by simp [keys]
      have g : ∀ q (hq : q < ws.length), (keys ws)[q]'(by rw [lk]; exact hq) = (ws[q].server, ws[q].token) := fun q hq => by simp [keys]
      rcases Nat.lt_or_ge i j with h | h
      · exact hd i j (by omega) (by omega) h (by rw [g i hi, g j hjl, k1, k2])
      · exact hd j i (by omega) (by omega) (by omega) (by rw [g i hi, g j hjl, k1, k2])
theorem ixf_any {α : Type} {p : α → Bool} {l : List α} {i j : Nat} (h : ixf p i l = some j) : l.any p = true := by
  obtain ⟨-, -, ⟨a, ha, hp⟩, -⟩ := ixf_some h
  exact List.any_eq_true.2 ⟨a, List.mem_of_getElem? ha, hp⟩
theorem ixf_all {α : Type} {p : α → Bool} {l : List α} {i : Nat} (h : ixf p i l = none) : l.any p = false := by
  rw [List.any_eq_false]
  intro a ha
  rw [ixf_none h a ha]; simp
theorem map_none {ws : List W} {s : Int} {t : List Int} (h : ws.any (W.is s t) = false) (f : W → W) : (ws.map fun x => bif x.is s t then f x else x) = ws := by
  conv => rhs; rw [← List.map_id ws]
  refine List.map_congr_left fun x hx => ?_
  have := List.any_eq_false.1 h x hx
  rw [Bool.not_eq_true] at this
  rw [this]; rfl
theorem repl_snoc (w f x : W) (l : List W) : repl w f (l ++ [x]) = repl w f l ++ [bif x.is w.server w.token then f else x] := by simp [repl]
set_option maxRecDepth 100000 in
theorem refAdd_eq {k : Nat} (K : Nat × Int × List CV → Option X) (ws : List W) (w : W) (hl : ws.length ≤ 6) (hu : (keys ws).Nodup) (ht : ∀ x ∈ ws, x.token.length < k ∧ x.token.length < 4611686018427387904) (h1 : w.token.length < k) (h1' : w.token.length ≤ 100000) (h2 : w.path.length < k) (h2' : w.path.length ≤ 100000) (h3 : w.v.b.length < k) (h3' : w.v.b.length ≤ 100000) (hk : 10 < k) :
    f18 k K ws.length w.cv (ws.map W.cv) = K ((addW ws w).1.length, (addW ws w).2, (addW ws w).1.map W.cv) := by
  unfold f18 f18_A f18_T
  refine (grdT rfl).trans ?_
  refine (grdT rfl).trans ?_
  refine (grdT rfl).trans ?_
  refine (grdT rfl).trans ?_
  refine (grdT rfl).trans ?_
  refine (grdT rfl).trans ?_
  refine (grdT rfl).trans ?_
  refine (grdT rfl).trans ?_
  refine (grdT rfl).trans ?_
  refine (grdT rfl).trans ?_
  refine (grdT rfl).trans ?_
  refine (grdT rfl).trans ?_
  refine (grdT rfl).trans ?_
  refine (grdT rfl).trans ?_
  refine (grdT rfl).trans ?_
  refine (grdT rfl).trans ?_
  refine (grdT rfl).trans ?_
  refine (grdT rfl).trans ?_
  refine (grdT rfl).trans ?_
  refine (grdT rfl).trans ?_
  refine (grdT rfl).trans ?_
  refine (grdT rfl).trans ?_
  rw [show CV.toL (CV.cellD 1 w.cv) = by8 w.token from rfl, show CV.toL (CV.cellD 2 w.cv) = by64 w.path from rfl, show CV.toL (CV.cellD 16 w.cv) = by8 w.v.b from rfl, by8_length, takeMap0]
  unfold addW
  by_cases c1 : w.token.length > 8
  · rw [if_pos (.inl c1)]
    exact bifT (decide_eq_true (by omega))
  refine (bifF (decide_eq_false (by omega))).trans ?_
  refine (rightR_eq _ w.path h2 (by omega)).trans ?_
  cases c2 : pathOk w.path with
  | false => rw [if_pos (.inr rfl)]; rfl
  | true =>
    rw [if_neg (by simp [c1])]
    refine (bifF rfl).trans ?_
    refine (clockR_eq _ _).trans ?_
    refine (copy_eq _ w.token h1 h1').trans ?_
    refine (copy_eq _ w.v.b h3 h3').trans ?_
    dsimp only
    rw [take8, take8]
    refine iterV_spec (T := f18_L1 (fun X => @f37 X k) (fun X => @f36 X k) (fun X => @f38 X k) (fun X => @f16 X k) k K) (fun i => stA w ws.length i ((ws.take i).any (W.is w.server w.token)) (i : Int) ((repl w w.fresh (ws.take i)).map W.cv) (ws.map W.cv)) (fun i => _) ws.length (fun i rec h hr => ?_) (fun rec => ?_) k 0 (Nat.zero_le _) (by omega)
    · have htx := ht _ (List.getElem_mem h)
      refine (addStep K rec w ws[i] ws.length i _ _ _ (map_get W.cv ws i h) h (by simp [repl]; omega) (by omega) htx.1 htx.2).trans ?_
      rw [← hr, ← List.take_append_getElem h, List.any_append, repl_snoc, List.map_append]
      cases hc : ws[i].is w.server w.token with
      | true =>
        refine (bifT rfl).trans ?_
        simp [hc]
      | false =>
        refine (bifF rfl).trans ?_
        simp [hc]
    · rw [List.take_length]
      have hrl : (repl w w.fresh ws).length = ws.length := by simp [repl]
      refine (bifF (decide_eq_false (show ¬ ((ws.length : Int) < (ws.length : Int)) by omega))).trans ?_
      have hrt : List.take (0 + ws.length) ((repl w w.fresh ws).map W.cv) = (repl w w.fresh ws).map W.cv := take_all _ _ (by rw [List.length_map, hrl]; omega)
      cases c3 : ixf (W.is w.server w.token) 0 ws with
      | some j =>
        obtain ⟨-, hj, -, -⟩ := ixf_some c3
        have sm := setMap hu c3 (by omega) (fun _ => w.fresh)
        refine (bifT (ixf_any c3)).trans ?_
        refine (show _ = K (ws.length, 0, List.take (0 + ws.length) ((repl w w.fresh ws).map W.cv)) from rfl).trans ?_
        rw [hrt]
        show _ = K ((ws.set j w.fresh).length, 0, (ws.set j w.fresh).map W.cv)
        rw [sm, List.length_map]; rfl
      | none =>
        have ha := ixf_all c3
        refine (bifF ha).trans ?_
        have rp : repl w w.fresh ws = ws := map_none ha (fun _ => w.fresh)
        by_cases c4 : ws.length ≥ 6
        · refine (bifT (decide_eq_true (show (ws.length : Int) ≥ 6 by omega))).trans ?_
          show K (ws.length, 6, List.take (0 + ws.length) (ws.map W.cv)) = _
          rw [takeMap0]
          simp only [if_pos c4]
        · refine (bifF (decide_eq_false (show ¬ (ws.length : Int) ≥ 6 by omega))).trans ?_
          refine (show _ = grd (decide ((ws.length + 1) * 200 ≤ 140737488355328)) (K (ws.length + 1, 0, List.take (0 + (ws.length + 1)) (List.take ws.length ((repl w w.fresh ws).map W.cv) ++ [w.fresh.cv]))) from rfl).trans ?_
          rw [rp, grdT (decide_eq_true (by omega)), takeMap, Nat.zero_add, take_all _ _ (by simp)]
          simp only [if_neg c4]
          simp
theorem setRun_c (w : W) (c : Cd) (K : CV → Option X) : setRun w.cv 3 10 [.int .i64 c.pmin, .int .i64 c.pmax, .bool c.hasMin, .bool c.hasMax, .int .i64 c.gt, .int .i64 c.lt, .int .i64 c.st, .bool c.hasGt, .bool c.hasLt, .bool c.hasSt] K = K ({ w with c := c } : W).cv := rfl
def turnW (s : Int) (t : List Int) (c : Cd) (ws : List W) : List W := ws.map fun x => bif x.is s t then { x with c := c } else x
set_option maxRecDepth 100000 in
theorem turn_eq {k : Nat} (K : Bool × Nat × List CV → Option X) (ws : List W) (s : Int) (t : List Int) (c : Cd) (hw : Ws ws) (ht : Byt t) (hu : (keys ws).Nodup) (hk : ws.length < k) (hl : ws.length < 1000) : f24 k K s (by8 t) c.cv ws.length (ws.map W.cv) = K (ws.any (W.is s t), ws.length, (turnW s t c ws).map W.cv) := by
  have e : f24 k K s (by8 t) c.cv ws.length (ws.map W.cv) = f33 k (fun u1 => bif decide (u1.1 < 0) then K (false, u1.2.1, List.take (0 + u1.2.1) u1.2.2) else grd (decide (0 ≤ u1.1)) <| grd (decide (u1.1 < (Nat.cast u1.2.1 : Int))) <| Option.bind (u1.2.2)[(0 + (Int.toNat u1.1))]? fun e2 => setRun e2 3 10 [.int .i64 c.pmin, .int .i64 c.pmax, .bool c.hasMin, .bool c.hasMax, .int .i64 c.gt, .int .i64 c.lt, .int .i64 c.st, .bool c.hasGt, .bool c.hasLt, .bool c.hasSt] fun d3 => K (true, u1.2.1, List.take (0 + u1.2.1) (List.set u1.2.2 (0 + (Int.toNat u1.1)) d3))) s (by8 t) ws.length (ws.map W.cv) := by kernel_rfl
  rw [e, index_eq _ ws s t hw ht hk (by omega)]
  dsimp only
  cases c3 : ixf (W.is s t) 0 ws with
  | none =>
    have ha := ixf_all c3
    refine (bifT rfl).trans ?_
    rw [takeMap0, ha]
    unfold turnW
    rw [map_none ha]
  | some j =>
    obtain ⟨-, hj, -, -⟩ := ixf_some c3
    have hj : j < ws.length := by omega
    refine (bifF (decide_eq_false (show ¬ (j : Int) < 0 by omega))).trans ?_
    refine (grdT (dec0 j)).trans ?_
    refine (grdT (decide_eq_true (show (j : Int) < (ws.length : Int) by omega))).trans ?_
    rw [show ixI (some j) = (j : Int) from rfl, Int.toNat_natCast, Nat.zero_add]
    refine (bAt (map_get W.cv ws j hj) _).trans ?_
    refine (setRun_c ws[j] c _).trans ?_
    have sm := setMap hu c3 hj (fun x => { x with c := c })
    rw [ixf_any c3, Nat.zero_add, take_all _ _ (by simp), ← List.map_set, sm]; rfl
theorem keys_turn (s : Int) (t : List Int) (c : Cd) (ws : List W) : keys (turnW s t c ws) = keys ws := by
  unfold keys turnW
  rw [List.map_map]
  refine List.map_congr_left fun x _ => ?_
  show ((bif x.is s t then ({ x with c := c } : W) else x).server, (bif x.is s t then ({ x with c := c } : W) else x).token) = _
  cases x.is s t <;> rfl
theorem ws_turn {s : Int} {t : List Int} {c : Cd} {ws : List W} (h : Ws ws) : Ws (turnW s t c ws) := fun y hy => by
  obtain ⟨x, hx, rfl⟩ := List.mem_map.1 hy
  have := h x hx
  cases x.is s t
  · exact this
  · exact ⟨this.tok, this.tokl, this.pathl, this.v, this.at0, this.at1, this.seq0, this.seq1⟩
theorem keys_filter {ws : List W} (p : W → Bool) (h : (keys ws).Nodup) : (keys (ws.filter p)).Nodup := h.sublist (List.Sublist.map _ List.filter_sublist)
theorem ws_filter {ws : List W} (p : W → Bool) (h : Ws ws) : Ws (ws.filter p) := fun y hy => h y (List.mem_filter.1 hy).1
theorem keys_pass (now : Int) (ws : List W) (vs : List Vl) : ∀ i, i ≤ ws.length → keys (passN now ws vs i).1 = keys (ws.take i)
  | 0, _ => rfl
  | i + 1, h => by
    unfold passN
    rw [List.getElem?_eq_getElem h, ← List.take_append_getElem h]
    have ih := keys_pass now ws vs i (by omega)
    dsimp only
    cases ws[i].due ((vs[i]?).getD ws[i].v) now <;> simp only [cond_true, cond_false, keys, List.map_append] at ih ⊢ <;> rw [ih] <;> rfl
theorem keys_add {ws : List W} (w : W) (h : (keys ws).Nodup) : (keys (addW ws w).1).Nodup := by
  unfold addW
  split
  · exact h
  · split
    · next i hi =>
      obtain ⟨-, hl, ⟨a, ha, hp⟩, -⟩ := ixf_some hi
      have hl : i < ws.length := by omega
      rw [Nat.sub_zero, List.getElem?_eq_getElem hl] at ha
      cases ha
      have : keys (ws.set i w.fresh) = keys ws := by
        unfold keys
        rw [List.map_set]
        refine List.ext_getElem (by simp) fun q h1 h2 => ?_
        rw [List.getElem_set]
        split
        · next e => subst e; rw [List.getElem_map, is_key.1 hp]; rfl
        · rfl
      show (keys (ws.set i w.fresh)).Nodup
      rw [this]; exact h
    · next hn =>
      split
      · exact h
      · show (keys (ws ++ [w.fresh])).Nodup
        unfold keys
        rw [List.map_append]
        refine List.nodup_append.2 ⟨h, by simp, fun a ha b hb e => ?_⟩
        obtain ⟨x, hx, rfl⟩ := List.mem_map.1 ha
        rw [List.map_singleton, List.mem_singleton] at hb
        have := ixf_none hn x hx
        rw [is_key.2 (show (x.server, x.token) = (w.server, w.token) from e.trans hb)] at this
        cases this
theorem add_len {ws : List W} (w : W) (h : ws.length ≤ 6) : (addW ws w).1.length ≤ 6 := by
  unfold addW
  split
  · exact h
  · split
    · simpa using h
    · split
      · exact h
      · simp; omega
theorem ws_add {ws : List W} {w : W} (h : Ws ws) (hf : w.fresh.ok) : Ws (addW ws w).1 := by
  unfold addW
  split
  · exact h
  · split
    · intro y hy
      rcases List.mem_or_eq_of_mem_set hy with hy | rfl
      · exact h y hy
      · exact hf
    · split
      · exact h
      · intro y hy
        rcases List.mem_append.1 hy with hy | hy
        · exact h y hy
        · rw [List.mem_singleton.1 hy]; exact hf
end
end Go.Proofs.YthlaobnnhghcfaaD
/- Watches, step by step: the law's loops (printed by pn.py). -/
namespace Go.Proofs.YthlaobnnhghcfaaD
open Go Go.Proofs.YthlaobnnhghcfaaS Go.Proofs
set_option linter.unusedVariables false
set_option linter.unusedSimpArgs false
section
variable {X : Type}
/-- A step. -/
structure O where
  kind : Int
  w : W
  vals : List Vl
  now : Int
def O.cv (o : O) : CV := .agg [.int .i64 o.kind, .int .i64 o.w.server, .slc none (by8 o.w.token), .slc none (by64 o.w.path), .int .i64 o.w.c.pmin, .int .i64 o.w.c.pmax, .bool o.w.c.hasMin, .bool o.w.c.hasMax, .int .i64 o.w.c.gt, .int .i64 o.w.c.lt, .int .i64 o.w.c.st, .bool o.w.c.hasGt, .bool o.w.c.hasLt, .bool o.w.c.hasSt, .int .i64 o.w.v.kind, .int .i64 o.w.v.n, .str o.w.v.s, .slc none (by8 o.w.v.b), .int .i64 o.w.v.obj, .int .i64 o.w.v.inst, .int .i64 o.w.at_, .int .i64 o.w.seq, .slc (some 6) (o.vals.map Vl.cv), .int .i64 o.now]
def Sz (w : W) : Prop := w.token.length ≤ 50 ∧ w.path.length ≤ 10 ∧ w.v.b.length ≤ 300
structure Inv (ws : List W) : Prop where
  ok : Ws ws
  uq : (keys ws).Nodup
  le : ws.length ≤ 6
  sz : ∀ w ∈ ws, Sz w
theorem takeMapD (ws : List W) : List.take ws.length (List.drop 0 (ws.map W.cv)) = ws.map W.cv := by rw [List.drop_zero]; exact takeMap ws
theorem tail_eq {k : Nat} (R : Nat → List CV → Option X) (K0 : Option X) (ws : List W) (h : Inv ws) (hk : 1000 < k) (hk2 : True) :
    f28 k (fun u => bif (u.1 != (Nat.cast ws.length : Int)) then K0 else f29 k (fun v => f27 k (fun y => f26 k (fun z => bif !z then K0 else R v.2.1 v.2.2.1) (List.take y.1 (List.drop 0 y.2)) (List.take ws.length (List.drop 0 (ws.map W.cv)))) (List.take v.1 (List.drop 0 v.2.2.2))) u.2.1 u.2.2) ws.length (ws.map W.cv) = R ws.length (ws.map W.cv) := by
  have hle := h.le
  rw [len_eq]
  refine (bifF (bne_self_eq_false _)).trans ?_
  refine (all_eq _ ws h.ok (by omega) (by omega)).trans ?_
  dsimp only
  rw [takeMapD]
  refine (as_eq _ ws (by omega) (by omega)).trans ?_
  dsimp only
  rw [takeMapD]
  refine (sameW_eq _ ws (fun w hw => by have := h.sz w hw; unfold Sz at this; omega) (by omega) hk2).trans ?_
  rfl
def pO (o : O) (x : W) : Bool := bif o.kind == 2 then x.is o.w.server o.w.token else bif o.kind == 3 then beg x.path o.w.path else (x.server == o.w.server)
abbrev St2 := Nat × Nat × List CV × Int × Int × Nat × Int × Int × List CV × Int × Int × List CV × List CV × Int × Int × Bool × Bool × Int × Int × Int × Bool × Bool × Bool × Int × Int × ByteArray × List CV × Int × Int × Int × Int × List CV × Int × List CV × Nat × List CV
def st2 (o : O) (n ln : Nat) (A : List CV) (N I i : Int) (row left : List CV) (tn : Nat) (trow : List CV) : St2 := (n, ln, A, N, I, n, (n : Int), i, row, o.kind, o.w.server, by8 o.w.token, by64 o.w.path, o.w.c.pmin, o.w.c.pmax, o.w.c.hasMin, o.w.c.hasMax, o.w.c.gt, o.w.c.lt, o.w.c.st, o.w.c.hasGt, o.w.c.hasLt, o.w.c.hasSt, o.w.v.kind, o.w.v.n, o.w.v.s, by8 o.w.v.b, o.w.v.obj, o.w.v.inst, o.w.at_, o.w.seq, o.vals.map Vl.cv, o.now, left, tn, trow)
abbrev St3 := Nat × Bool × List CV × Int × Int × Int × Int × List CV × Int × Int × List CV × List CV × Int × Int × Bool × Bool × Int × Int × Int × Bool × Bool × Bool × Int × Int × ByteArray × List CV × Int × Int × Int × Int × List CV × Int × Nat × List CV
def st3 (o : O) (n : Nat) (th : Bool) (A : List CV) (N I i : Int) (row : List CV) (tn : Nat) (trow : List CV) : St3 := (n, th, A, N, I, (n : Int), i, row, o.kind, o.w.server, by8 o.w.token, by64 o.w.path, o.w.c.pmin, o.w.c.pmax, o.w.c.hasMin, o.w.c.hasMax, o.w.c.gt, o.w.c.lt, o.w.c.st, o.w.c.hasGt, o.w.c.hasLt, o.w.c.hasSt, o.w.v.kind, o.w.v.n, o.w.v.s, by8 o.w.v.b, o.w.v.obj, o.w.v.inst, o.w.at_, o.w.seq, o.vals.map Vl.cv, o.now, tn, trow)
abbrev St1 := Nat × List CV × Int × Int × List CV × Nat × List CV
def st1 (A : List CV) (N : Int) (i : Nat) (ws : List W) : St1 := (ws.length, A, N, (i : Int), ws.map W.cv, ws.length, ws.map W.cv)
set_option maxRecDepth 100000 in
theorem fj2_eq {k : Nat} (K : Bool → Option X) (rec2 : St2 → Option X) (o : O) (x : W) (n ln i : Nat) (A : List CV) (N I : Int) (row left : List CV) (tn : Nat) (trow : List CV) (b : Bool) (hl : left.length = ln) (hln : ln < 1000) (hi : i < 1000) :
    f6_J2 (fun X => @f7 X k) (fun X => @f17 X k) (fun X => @f8 X k) (fun X => @f9 X k) (fun X => @f19 X k) (fun X => @f18 X k) (fun X => @f28 X k) (fun X => @f29 X k) (fun X => @f27 X k) (fun X => @f26 X k) (fun X => @f16 X k) (fun X => @f20 X k) (fun X => @f21 X k) (fun X => @f22 X k) (fun X => @f23 X k) (fun X => @f24 X k) (fun X => @f11 X k) (fun X => @f25 X k) k K x.cv rec2 (st2 o n ln A N I (i : Int) row left tn trow) b = bif b then rec2 (st2 o n ln A N I ((i + 1 : Nat) : Int) row left tn trow) else rec2 (st2 o n (ln + 1) A N I ((i + 1 : Nat) : Int) row (left ++ [x.cv]) tn trow) := by
  cases b with
  | true =>
    refine (show _ = rec2 (st2 o n ln A N I (IntKind.wrap .i64 ((i : Int) + 1)) row left tn trow) from by kernel_rfl).trans ?_
    rw [wrap64_succ (by omega)]; rfl
  | false =>
    refine (show _ = grd (decide ((ln + 1) * 200 ≤ 140737488355328)) (rec2 (st2 o n (ln + 1) A N I (IntKind.wrap .i64 ((i : Int) + 1)) row (List.take ln left ++ [x.cv]) tn trow)) from by kernel_rfl).trans ?_
    rw [grdT (decide_eq_true (by omega)), wrap64_succ (by omega), take_all _ _ (by omega)]; rfl
set_option maxRecDepth 100000 in
theorem fstep_eq {k : Nat} (K : Bool → Option X) (rec1 : St1 → Option X) (rec2 : St2 → Option X) (o : O) (x : W) (n ln i : Nat) (A : List CV) (N I : Int) (row left : List CV) (tn : Nat) (trow : List CV) (hrow : row[i]? = some x.cv) (hin : i < n) (hl : left.length = ln) (hln : ln < 1000) (hi : i < 1000) (hx : Sz x) (ho : Sz o.w) (hk : 1000 < k) :
    f6_T2 (fun X => @f7 X k) (fun X => @f17 X k) (fun X => @f8 X k) (fun X => @f9 X k) (fun X => @f19 X k) (fun X => @f18 X k) (fun X => @f28 X k) (fun X => @f29 X k) (fun X => @f27 X k) (fun X => @f26 X k) (fun X => @f16 X k) (fun X => @f20 X k) (fun X => @f21 X k) (fun X => @f22 X k) (fun X => @f23 X k) (fun X => @f24 X k) (fun X => @f11 X k) (fun X => @f25 X k) k K rec1 rec2 (st2 o n ln A N I (i : Int) row left tn trow) = bif pO o x then rec2 (st2 o n ln A N I ((i + 1 : Nat) : Int) row left tn trow) else rec2 (st2 o n (ln + 1) A N I ((i + 1 : Nat) : Int) row (left ++ [x.cv]) tn trow) := by
  obtain ⟨hx1, hx2, hx3⟩ := hx
  obtain ⟨ho1, ho2, ho3⟩ := ho
  unfold f6_T2
  refine (bifT (decide_eq_true (show (i : Int) < (n : Int) by omega))).trans ?_
  refine (grdT (dec0 i)).trans ?_
  refine (grdT (decide_eq_true (show (i : Int) < (n : Int) by omega))).trans ?_
  have hrow' : row[0 + (Int.toNat (i : Int))]? = some x.cv := by rw [Nat.zero_add, Int.toNat_natCast]; exact hrow
  refine (bAt hrow' _).trans ?_
  refine (grdT rfl).trans ?_
  refine (grdT rfl).trans ?_
  refine (grdT rfl).trans ?_
  refine (grdT rfl).trans ?_
  refine (grdT rfl).trans ?_
  refine (grdT rfl).trans ?_
  refine (grdT rfl).trans ?_
  refine (grdT rfl).trans ?_
  refine (grdT rfl).trans ?_
  refine (grdT rfl).trans ?_
  refine (grdT rfl).trans ?_
  refine (grdT rfl).trans ?_
  refine (grdT rfl).trans ?_
  refine (grdT rfl).trans ?_
  refine (grdT rfl).trans ?_
  refine (grdT rfl).trans ?_
  refine (grdT rfl).trans ?_
  refine (grdT rfl).trans ?_
  refine (grdT rfl).trans ?_
  refine (grdT rfl).trans ?_
  refine (grdT rfl).trans ?_
  refine (grdT rfl).trans ?_
  have hJ := fun b => fj2_eq (k := k) K rec2 o x n ln i A N I row left tn trow b hl hln hi
  unfold pO
  cases h2 : o.kind == 2 with
  | true =>
    refine (bifT h2).trans ?_
    unfold W.is
    cases h3 : x.server == o.w.server with
    | true =>
      refine (bifT h3).trans ?_
      refine (same_eq _ x.token o.w.token (by omega) (by omega)).trans ?_
      exact hJ _
    | false =>
      refine (bifF h3).trans ?_
      exact hJ _
  | false =>
    refine (bifF h2).trans ?_
    cases h3 : o.kind == 3 with
    | true =>
      refine (bifT h3).trans ?_
      refine (begins_eq _ x.path o.w.path (by omega) (by omega)).trans ?_
      exact hJ _
    | false =>
      refine (bifF h3).trans ?_
      exact hJ _
theorem inv_filter {ws : List W} (p : W → Bool) (h : Inv ws) : Inv (ws.filter p) :=
  ⟨ws_filter p h.ok, keys_filter p h.uq, by have := flen p ws; have := h.le; omega, fun w hw => h.sz w (List.mem_filter.1 hw).1⟩
set_option maxRecDepth 100000 in
theorem fend_eq {k : Nat} (K : Bool → Option X) (rec1 : St1 → Option X) (rec2 : St2 → Option X) (o : O) (ws : List W) (A : List CV) (N : Int) (I : Nat) (h : Inv ws) (ho : Sz o.w) (hb : Byt o.w.token) (hI : I < 1000) (hk : 1000 < k) (hk2 : True) (hkd : o.kind = 2 ∨ o.kind = 3 ∨ o.kind = 4) :
    f6_T2 (fun X => @f7 X k) (fun X => @f17 X k) (fun X => @f8 X k) (fun X => @f9 X k) (fun X => @f19 X k) (fun X => @f18 X k) (fun X => @f28 X k) (fun X => @f29 X k) (fun X => @f27 X k) (fun X => @f26 X k) (fun X => @f16 X k) (fun X => @f20 X k) (fun X => @f21 X k) (fun X => @f22 X k) (fun X => @f23 X k) (fun X => @f24 X k) (fun X => @f11 X k) (fun X => @f25 X k) k K rec1 rec2 (st2 o ws.length (ws.filter fun x => !(pO o x)).length A N (I : Int) (ws.length : Int) (ws.map W.cv) ((ws.filter fun x => !(pO o x)).map W.cv) ws.length (ws.map W.cv)) = rec1 (st1 A N (I + 1) (ws.filter fun x => !(pO o x))) := by
  obtain ⟨ho1, ho2, ho3⟩ := ho
  have hle := h.le
  have hi := inv_filter (fun x => !(pO o x)) h
  have hfl := flen (fun x => !(pO o x)) ws
  have ew : IntKind.wrap .i64 ((ws.length : Int) - ((ws.filter fun x => !(pO o x)).length : Int)) = (ws.length : Int) - ((ws.filter fun x => !(pO o x)).length : Int) := wrap64 (by omega) (by omega)
  have eI : IntKind.wrap .i64 ((I : Int) + 1) = ((I + 1 : Nat) : Int) := wrap64_succ (by omega)
  unfold f6_T2
  refine (bifF (decide_eq_false (show ¬ ((ws.length : Int) < (ws.length : Int)) by omega))).trans ?_
  rcases hkd with hkd | hkd | hkd
  · refine (bifT (beq_iff_eq.2 hkd)).trans ?_
    have ep : (fun x : W => !(pO o x)) = fun x => !(x.is o.w.server o.w.token) := by funext x; unfold pO; rw [hkd]; rfl
    refine (dropT_eq _ ws h.ok o.w.server o.w.token hb (by omega) (by omega)).trans ?_
    rw [← ep]
    refine (bifF (by show (!(_ == decide (IntKind.wrap .i64 ((ws.length : Int) - ((ws.filter fun x => !(pO o x)).length : Int)) > 0))) = false; rw [ew, beq_self_eq_true]; rfl)).trans ?_
    refine (tail_eq (fun n row => rec1 ((ws.filter fun x => !(pO o x)).length, A, N, IntKind.wrap .i64 ((I : Int) + 1), (ws.filter fun x => !(pO o x)).map W.cv, n, row)) (K false) _ hi hk hk2).trans ?_
    rw [eI]; rfl
  · refine (bifF (by show (o.kind == 2) = false; rw [hkd]; rfl)).trans ?_
    refine (bifT (beq_iff_eq.2 hkd)).trans ?_
    have ep : (fun x : W => !(pO o x)) = fun x => !(beg x.path o.w.path) := by funext x; unfold pO; rw [hkd]; rfl
    refine (dropP_eq _ ws h.ok o.w.path (by omega) (by omega) (by omega) (by omega)).trans ?_
    rw [← ep]
    refine (bifF (by show (_ != IntKind.wrap .i64 ((ws.length : Int) - ((ws.filter fun x => !(pO o x)).length : Int))) = false; rw [ew]; exact bne_self_eq_false _)).trans ?_
    refine (tail_eq (fun n row => rec1 ((ws.filter fun x => !(pO o x)).length, A, N, IntKind.wrap .i64 ((I : Int) + 1), (ws.filter fun x => !(pO o x)).map W.cv, n, row)) (K false) _ hi hk hk2).trans ?_
    rw [eI]; rfl
  · refine (bifF (by show (o.kind == 2) = false; rw [hkd]; rfl)).trans ?_
    refine (bifF (by show (o.kind == 3) = false; rw [hkd]; rfl)).trans ?_
    refine (bifT (beq_iff_eq.2 hkd)).trans ?_
    have ep : (fun x : W => !(pO o x)) = fun x => !(x.server == o.w.server) := by funext x; unfold pO; rw [hkd]; rfl
    refine (dropS_eq _ ws h.ok o.w.server (by omega) (by omega)).trans ?_
    rw [← ep]
    refine (bifF (by show (_ != IntKind.wrap .i64 ((ws.length : Int) - ((ws.filter fun x => !(pO o x)).length : Int))) = false; rw [ew]; exact bne_self_eq_false _)).trans ?_
    refine (tail_eq (fun n row => rec1 ((ws.filter fun x => !(pO o x)).length, A, N, IntKind.wrap .i64 ((I : Int) + 1), (ws.filter fun x => !(pO o x)).map W.cv, n, row)) (K false) _ hi hk hk2).trans ?_
    rw [eI]; rfl
set_option maxRecDepth 100000 in
theorem floop_eq {k : Nat} (K : Bool → Option X) (rec1 : St1 → Option X) (o : O) (ws : List W) (A : List CV) (N : Int) (I : Nat) (h : Inv ws) (ho : Sz o.w) (hb : Byt o.w.token) (hI : I < 1000) (hk : 1000 < k) (hk2 : True) (hkd : o.kind = 2 ∨ o.kind = 3 ∨ o.kind = 4) :
    iterV (f6_L2 (fun X => @f7 X k) (fun X => @f17 X k) (fun X => @f8 X k) (fun X => @f9 X k) (fun X => @f19 X k) (fun X => @f18 X k) (fun X => @f28 X k) (fun X => @f29 X k) (fun X => @f27 X k) (fun X => @f26 X k) (fun X => @f16 X k) (fun X => @f20 X k) (fun X => @f21 X k) (fun X => @f22 X k) (fun X => @f23 X k) (fun X => @f24 X k) (fun X => @f11 X k) (fun X => @f25 X k) k K rec1) k (st2 o ws.length 0 A N (I : Int) 0 (ws.map W.cv) [] ws.length (ws.map W.cv)) = rec1 (st1 A N (I + 1) (ws.filter fun x => !(pO o x))) := by
  have hle := h.le
  refine iterV_spec (T := f6_L2 (fun X => @f7 X k) (fun X => @f17 X k) (fun X => @f8 X k) (fun X => @f9 X k) (fun X => @f19 X k) (fun X => @f18 X k) (fun X => @f28 X k) (fun X => @f29 X k) (fun X => @f27 X k) (fun X => @f26 X k) (fun X => @f16 X k) (fun X => @f20 X k) (fun X => @f21 X k) (fun X => @f22 X k) (fun X => @f23 X k) (fun X => @f24 X k) (fun X => @f11 X k) (fun X => @f25 X k) k K rec1) (fun i => st2 o ws.length ((ws.take i).filter fun x => !(pO o x)).length A N (I : Int) (i : Int) (ws.map W.cv) (((ws.take i).filter fun x => !(pO o x)).map W.cv) ws.length (ws.map W.cv)) (fun i => rec1 (st1 A N (I + 1) (ws.filter fun x => !(pO o x)))) ws.length (fun i rec hi hr => ?_) (fun rec => ?_) k 0 (Nat.zero_le _) (by omega)
  · have hf1 := flen (fun x => !(pO o x)) (ws.take i)
    rw [List.length_take] at hf1
    refine (fstep_eq K rec1 rec o ws[i] ws.length _ i A N (I : Int) _ _ _ _ (map_get W.cv ws i hi) hi (List.length_map ..) (by omega) (by omega) (h.sz _ (List.getElem_mem hi)) ho hk).trans ?_
    rw [← hr, ← List.take_append_getElem hi, List.filter_append]
    cases hp : pO o ws[i] with
    | true =>
      refine (bifT rfl).trans ?_
      rw [List.filter_cons_of_neg (by simp [hp]), List.filter_nil, List.append_nil]
    | false =>
      refine (bifF rfl).trans ?_
      rw [List.filter_cons_of_pos (by simp [hp]), List.filter_nil, List.length_append, List.map_append]; rfl
  · rw [List.take_length]
    exact fend_eq K rec1 rec o ws A N I h ho hb hI hk hk2 hkd
end
end Go.Proofs.YthlaobnnhghcfaaD
/- Watches, step by step: the law (printed by pq.py). -/
namespace Go.Proofs.YthlaobnnhghcfaaD
open Go Go.Proofs.YthlaobnnhghcfaaS Go.Proofs
set_option linter.unusedVariables false
set_option linter.unusedSimpArgs false
section
variable {X : Type}
theorem tail_eq' {k : Nat} (R : Nat → List CV → Option X) (K0 : Option X) (n : Nat) (ws : List W) (hn : n = ws.length) (h : Inv ws) (hk : 1000 < k) (hk2 : True) :
    f28 k (fun u => bif (u.1 != (Nat.cast n : Int)) then K0 else f29 k (fun v => f27 k (fun y => f26 k (fun z => bif !z then K0 else R v.2.1 v.2.2.1) (List.take y.1 (List.drop 0 y.2)) (List.take n (List.drop 0 (ws.map W.cv)))) (List.take v.1 (List.drop 0 v.2.2.2))) u.2.1 u.2.2) n (ws.map W.cv) = R n (ws.map W.cv) := by
  subst hn
  exact tail_eq R K0 ws h hk hk2
def wc (o : O) (x : W) : W := { x with c := o.w.c }
set_option maxRecDepth 100000 in
theorem tj3_eq {k : Nat} (K : Bool → Option X) (rec3 : St3 → Option X) (o : O) (n : Nat) (th th' : Bool) (A : List CV) (N I : Int) (i : Nat) (row row' : List CV) (tn : Nat) (trow : List CV) (hi : i < 1000) :
    f6_J3 (fun X => @f7 X k) (fun X => @f17 X k) (fun X => @f8 X k) (fun X => @f9 X k) (fun X => @f19 X k) (fun X => @f18 X k) (fun X => @f28 X k) (fun X => @f29 X k) (fun X => @f27 X k) (fun X => @f26 X k) (fun X => @f16 X k) (fun X => @f20 X k) (fun X => @f21 X k) (fun X => @f22 X k) (fun X => @f23 X k) (fun X => @f24 X k) (fun X => @f11 X k) (fun X => @f25 X k) k K rec3 (st3 o n th A N I (i : Int) row tn trow) (th', row') = rec3 (st3 o n th' A N I ((i + 1 : Nat) : Int) row' tn trow) := by
  refine (show _ = rec3 (st3 o n th' A N I (IntKind.wrap .i64 ((i : Int) + 1)) row' tn trow) from by kernel_rfl).trans ?_
  rw [wrap64_succ (by omega)]
set_option maxRecDepth 100000 in
theorem tstep_eq {k : Nat} (K : Bool → Option X) (rec1 : St1 → Option X) (rec3 : St3 → Option X) (o : O) (x : W) (n i : Nat) (th : Bool) (A : List CV) (N I : Int) (row : List CV) (tn : Nat) (trow : List CV) (hrow : row[i]? = some x.cv) (hin : i < n) (hi : i < 1000) (hx : Sz x) (hk : 1000 < k) :
    f6_T3 (fun X => @f7 X k) (fun X => @f17 X k) (fun X => @f8 X k) (fun X => @f9 X k) (fun X => @f19 X k) (fun X => @f18 X k) (fun X => @f28 X k) (fun X => @f29 X k) (fun X => @f27 X k) (fun X => @f26 X k) (fun X => @f16 X k) (fun X => @f20 X k) (fun X => @f21 X k) (fun X => @f22 X k) (fun X => @f23 X k) (fun X => @f24 X k) (fun X => @f11 X k) (fun X => @f25 X k) k K rec1 rec3 (st3 o n th A N I (i : Int) row tn trow) = bif x.is o.w.server o.w.token then rec3 (st3 o n true A N I ((i + 1 : Nat) : Int) (row.set i (wc o x).cv) tn trow) else rec3 (st3 o n th A N I ((i + 1 : Nat) : Int) row tn trow) := by
  obtain ⟨hx1, hx2, hx3⟩ := hx
  unfold f6_T3
  refine (bifT (decide_eq_true (show (i : Int) < (n : Int) by omega))).trans ?_
  refine (grdT (dec0 i)).trans ?_
  refine (grdT (decide_eq_true (show (i : Int) < (n : Int) by omega))).trans ?_
  have hrow' : row[0 + (Int.toNat (i : Int))]? = some x.cv := by rw [Nat.zero_add, Int.toNat_natCast]; exact hrow
  refine (bAt hrow' _).trans ?_
  refine (bAt (show CV.cell x.cv 0 = some (.int .i64 x.server) from rfl) _).trans ?_
  refine (grdT rfl).trans ?_
  unfold W.is
  cases h3 : x.server == o.w.server with
  | false =>
    refine (bifF h3).trans ?_
    exact tj3_eq K rec3 o n th th A N I i row row tn trow hi
  | true =>
    refine (bifT h3).trans ?_
    refine (grdT (dec0 i)).trans ?_
    refine (grdT (decide_eq_true (show (i : Int) < (n : Int) by omega))).trans ?_
    refine (bAt hrow' _).trans ?_
    refine (bAt (show CV.cell x.cv 1 = some (.slc none (by8 x.token)) from rfl) _).trans ?_
    refine (grdT rfl).trans ?_
    refine (same_eq _ x.token o.w.token (by omega) (by omega)).trans ?_
    cases decide (x.token = o.w.token) with
    | false =>
      refine (bifF rfl).trans ?_
      exact tj3_eq K rec3 o n th th A N I i row row tn trow hi
    | true =>
      refine (bifT rfl).trans ?_
      refine (grdT (dec0 i)).trans ?_
      refine (grdT (decide_eq_true (show (i : Int) < (n : Int) by omega))).trans ?_
      refine (bAt hrow' _).trans ?_
      refine (setRun_c x o.w.c _).trans ?_
      refine (tj3_eq K rec3 o n th true A N I i row _ tn trow hi).trans ?_
      show rec3 (st3 o n true A N I ((i + 1 : Nat) : Int) (row.set (0 + Int.toNat (i : Int)) (wc o x).cv) tn trow) = _
      rw [Nat.zero_add, Int.toNat_natCast]; rfl
theorem turn_len (s : Int) (t : List Int) (c : Cd) (ws : List W) : (turnW s t c ws).length = ws.length := by simp [turnW]
theorem inv_turn {ws : List W} (s : Int) (t : List Int) (c : Cd) (h : Inv ws) : Inv (turnW s t c ws) :=
  ⟨ws_turn h.ok, by rw [keys_turn]; exact h.uq, by rw [turn_len]; exact h.le, fun y hy => by
    obtain ⟨x, hx, rfl⟩ := List.mem_map.1 hy
    have := h.sz x hx
    cases x.is s t
    · exact this
    · exact this⟩
set_option maxRecDepth 100000 in
theorem tloop_eq {k : Nat} (K : Bool → Option X) (rec1 : St1 → Option X) (o : O) (ws : List W) (A : List CV) (N : Int) (I : Nat) (h : Inv ws) (hb : Byt o.w.token) (hI : I < 1000) (hk : 1000 < k) (hk2 : True) :
    iterV (f6_L3 (fun X => @f7 X k) (fun X => @f17 X k) (fun X => @f8 X k) (fun X => @f9 X k) (fun X => @f19 X k) (fun X => @f18 X k) (fun X => @f28 X k) (fun X => @f29 X k) (fun X => @f27 X k) (fun X => @f26 X k) (fun X => @f16 X k) (fun X => @f20 X k) (fun X => @f21 X k) (fun X => @f22 X k) (fun X => @f23 X k) (fun X => @f24 X k) (fun X => @f11 X k) (fun X => @f25 X k) k K rec1) k (st3 o ws.length false A N (I : Int) 0 (ws.map W.cv) ws.length (ws.map W.cv)) = rec1 (st1 A N (I + 1) (turnW o.w.server o.w.token o.w.c ws)) := by
  have hle := h.le
  have tl : ∀ l, (turnW o.w.server o.w.token o.w.c l).length = l.length := turn_len _ _ _
  refine iterV_spec (T := f6_L3 (fun X => @f7 X k) (fun X => @f17 X k) (fun X => @f8 X k) (fun X => @f9 X k) (fun X => @f19 X k) (fun X => @f18 X k) (fun X => @f28 X k) (fun X => @f29 X k) (fun X => @f27 X k) (fun X => @f26 X k) (fun X => @f16 X k) (fun X => @f20 X k) (fun X => @f21 X k) (fun X => @f22 X k) (fun X => @f23 X k) (fun X => @f24 X k) (fun X => @f11 X k) (fun X => @f25 X k) k K rec1) (fun i => st3 o ws.length ((ws.take i).any (W.is o.w.server o.w.token)) A N (I : Int) (i : Int) ((turnW o.w.server o.w.token o.w.c (ws.take i) ++ ws.drop i).map W.cv) ws.length (ws.map W.cv)) (fun i => rec1 (st1 A N (I + 1) (turnW o.w.server o.w.token o.w.c ws))) ws.length (fun i rec hi hr => ?_) (fun rec => ?_) k 0 (Nat.zero_le _) (by omega)
  · have hti : (turnW o.w.server o.w.token o.w.c (ws.take i)).length = i := by rw [tl, List.length_take]; omega
    have hrow : ((turnW o.w.server o.w.token o.w.c (ws.take i) ++ ws.drop i).map W.cv)[i]? = some ws[i].cv := by
      rw [List.getElem?_map, List.getElem?_append_right (by omega), hti, Nat.sub_self, List.getElem?_drop, Nat.add_zero, List.getElem?_eq_getElem hi]; rfl
    refine (tstep_eq K rec1 rec o ws[i] ws.length i _ A N (I : Int) _ _ _ hrow hi (by omega) (h.sz _ (List.getElem_mem hi)) hk).trans ?_
    have es : turnW o.w.server o.w.token o.w.c (ws.take (i + 1)) = turnW o.w.server o.w.token o.w.c (ws.take i) ++ [bif ws[i].is o.w.server o.w.token then wc o ws[i] else ws[i]] := by
      rw [← List.take_append_getElem hi]; unfold turnW; rw [List.map_append]; rfl
    have ed : ws.drop i = ws[i] :: ws.drop (i + 1) := List.drop_eq_getElem_cons hi
    rw [← hr, es, ← List.take_append_getElem hi, List.any_append, ed]
    cases hp : ws[i].is o.w.server o.w.token with
    | true =>
      refine (bifT rfl).trans ?_
      have e1 : (List.map W.cv (turnW o.w.server o.w.token o.w.c (ws.take i) ++ ws[i] :: ws.drop (i + 1))).set i (wc o ws[i]).cv = List.map W.cv (turnW o.w.server o.w.token o.w.c (ws.take i) ++ [wc o ws[i]] ++ ws.drop (i + 1)) := by
        rw [List.append_assoc, List.map_append, List.map_append, List.set_append_right _ _ (by rw [List.length_map]; omega), List.length_map, hti, Nat.sub_self]; rfl
      rw [e1]
      simp [hp]
    | false =>
      refine (bifF rfl).trans ?_
      simp [hp]
  · rw [List.take_length, List.drop_length, List.append_nil]
    unfold f6_L3 f6_T3
    refine (bifF (decide_eq_false (show ¬ ((ws.length : Int) < (ws.length : Int)) by omega))).trans ?_
    refine (turn_eq _ ws o.w.server o.w.token o.w.c h.ok hb h.uq (by omega) (by omega)).trans ?_
    refine (bifF (by show (!(_ == ws.any (W.is o.w.server o.w.token))) = false; rw [beq_self_eq_true]; rfl)).trans ?_
    refine (tail_eq' (fun n row => rec1 (ws.length, A, N, IntKind.wrap .i64 ((I : Int) + 1), (turnW o.w.server o.w.token o.w.c ws).map W.cv, n, row)) (K false) ws.length _ (tl ws).symm (inv_turn _ _ _ h) hk hk2).trans ?_
    rw [wrap64_succ (by omega)]
    unfold st1
    rw [tl]
/-- An op that is sized. -/
structure O.ok (o : O) : Prop where
  sz : Sz o.w
  tok : Byt o.w.token
  vb : Byt o.w.v.b
  vn : I64 o.w.v.n
  vals : ∀ v ∈ o.vals, v.ok ∧ v.b.length ≤ 300
theorem O.ok.fresh {o : O} (h : o.ok) : o.w.fresh.ok := by
  obtain ⟨h1, h2, h3⟩ := h.sz
  obtain ⟨c0, c1⟩ := ck_b o.w.at_
  exact ⟨h.tok, by show o.w.token.length < _; omega, by show o.w.path.length < _; omega, ⟨h.vb, by show o.w.v.b.length < _; omega, h.vn⟩, c0, c1, by show (0 : Int) ≤ 0; omega, by show (0 : Int) < _; omega⟩
theorem inv_add {ws : List W} {o : O} (h : Inv ws) (ho : o.ok) : Inv (addW ws o.w).1 :=
  ⟨ws_add h.ok ho.fresh, keys_add _ h.uq, add_len _ h.le, fun y hy => by
    have : ∀ y ∈ (addW ws o.w).1, y ∈ ws ∨ y = o.w.fresh := by
      unfold addW
      split
      · exact fun y hy => .inl hy
      · split
        · exact fun y hy => List.mem_or_eq_of_mem_set hy
        · split
          · exact fun y hy => .inl hy
          · intro y hy
            rcases List.mem_append.1 hy with hy | hy
            · exact .inl hy
            · exact .inr (List.mem_singleton.1 hy)
    rcases this y hy with hy | rfl
    · exact h.sz y hy
    · exact ho.sz⟩
theorem pass_all {P : W → Prop} (now : Int) {ws : List W} {vs : List Vl} (hw : ∀ w ∈ ws, P w) (ht : ∀ (w : W) (v : Vl), P w → (v ∈ vs ∨ v = w.v) → P (w.told now v)) : ∀ i, (∀ y ∈ (passN now ws vs i).1, P y) ∧ (∀ y ∈ (passN now ws vs i).2, P y)
  | 0 => ⟨fun y h => by simp [passN] at h, fun y h => by simp [passN] at h⟩
  | i + 1 => by
    unfold passN
    obtain ⟨ih1, ih2⟩ := pass_all now hw ht i
    split
    · exact ⟨ih1, ih2⟩
    · rename_i w e
      have hwo := hw w (List.mem_of_getElem? e)
      have hvo : ((vs[i]?).getD w.v) ∈ vs ∨ ((vs[i]?).getD w.v) = w.v := by
        cases ev : vs[i]? with
        | none => exact .inr rfl
        | some v => exact .inl (List.mem_of_getElem? ev)
      have htt := ht w _ hwo hvo
      cases (w.due ((vs[i]?).getD w.v) now)
      · exact ⟨fun x hx => (List.mem_append.1 hx).elim (ih1 x) fun h => by rw [List.mem_singleton.1 h]; exact hwo, ih2⟩
      · exact ⟨fun x hx => (List.mem_append.1 hx).elim (ih1 x) fun h => by rw [List.mem_singleton.1 h]; exact htt, fun x hx => (List.mem_append.1 hx).elim (ih2 x) fun h => by rw [List.mem_singleton.1 h]; exact htt⟩
theorem pass_sz {ws : List W} {o : O} (h : Inv ws) (ho : o.ok) (now : Int) : (∀ y ∈ (passN now ws o.vals ws.length).1, Sz y) ∧ (∀ y ∈ (passN now ws o.vals ws.length).2, Sz y) :=
  pass_all now h.sz (fun w v hw hv => ⟨hw.1, hw.2.1, by
    rcases hv with hv | rfl
    · exact (ho.vals v hv).2
    · exact hw.2.2⟩) ws.length
theorem inv_pass {ws : List W} {o : O} (h : Inv ws) (ho : o.ok) : Inv (passN (ck o.now) ws o.vals ws.length).1 := by
  obtain ⟨c0, c1⟩ := ck_b o.now
  have hl := passN_len (ck o.now) ws o.vals ws.length (Nat.le_refl _)
  exact ⟨(passN_ok (ck o.now) h.ok (fun v hv => (ho.vals v hv).1) c0 c1 ws.length).1, by rw [keys_pass _ _ _ _ (Nat.le_refl _), List.take_length]; exact h.uq, by rw [hl]; exact h.le, (pass_sz h ho _).1⟩
abbrev Lp2 (X : Type) := St2 → Option X
abbrev Lp3 (X : Type) := St3 → Option X
set_option maxRecDepth 100000 in
theorem j4_eq {k : Nat} (K : Bool → Option X) (rec1 : St1 → Option X) (o : O) (ws : List W) (A : List CV) (N : Int) (I : Nat) (h : Inv ws) (ho : o.ok) (hI : I < 1000) (hk : 1000 < k) (hk2 : True) (b : Bool) :
    ∃ ws', Inv ws' ∧ f6_J4 (fun X => @f7 X k) (fun X => @f17 X k) (fun X => @f8 X k) (fun X => @f9 X k) (fun X => @f19 X k) (fun X => @f18 X k) (fun X => @f28 X k) (fun X => @f29 X k) (fun X => @f27 X k) (fun X => @f26 X k) (fun X => @f16 X k) (fun X => @f20 X k) (fun X => @f21 X k) (fun X => @f22 X k) (fun X => @f23 X k) (fun X => @f24 X k) (fun X => @f11 X k) (fun X => @f25 X k) k K o.cv rec1 (st1 A N I ws) b = rec1 (st1 A N (I + 1) ws') := by
  have hle := h.le
  have eI : IntKind.wrap .i64 ((I : Int) + 1) = ((I + 1 : Nat) : Int) := wrap64_succ (by omega)
  cases b with
  | false =>
    refine ⟨ws, h, ?_⟩
    unfold f6_J4
    refine (bifF rfl).trans ?_
    refine (tail_eq (fun n row => rec1 (ws.length, A, N, IntKind.wrap .i64 ((I : Int) + 1), ws.map W.cv, n, row)) (K false) ws h hk hk2).trans ?_
    rw [eI]; rfl
  | true =>
    refine ⟨_, inv_pass h ho, ?_⟩
    unfold f6_J4
    refine (bifT rfl).trans ?_
    have hv := fun v hv => (ho.vals v hv).1
    refine (dueAll_eq _ ws o.vals o.now h.ok hv (by omega) (by omega)).trans ?_
    dsimp only
    have e0 : List.take (st1 A N I ws).1 (List.drop 0 (st1 A N I ws).2.2.2.2.1) = ws.map W.cv := takeMapD ws
    rw [e0]
    refine (passR_eq _ ws o.vals o.now h.ok hv (by omega) (by omega) (fun w hw => by have := (h.sz w hw).2.2; omega)).trans ?_
    dsimp only
    have hl := passN_len (ck o.now) ws o.vals ws.length (Nat.le_refl _)
    have hl2 := passN_le (ck o.now) ws o.vals ws.length
    rw [takeMapD]
    refine (as_eq _ _ (by omega) (by omega)).trans ?_
    dsimp only
    rw [takeMapD]
    refine (sameW_eq _ _ (fun w hw => by have := (pass_sz h ho (ck o.now)).2 w hw; unfold Sz at this; omega) (by omega) hk2).trans ?_
    refine (bifF rfl).trans ?_
    refine (tail_eq' (fun n row => rec1 (ws.length, A, N, IntKind.wrap .i64 ((I : Int) + 1), (passN (ck o.now) ws o.vals ws.length).1.map W.cv, n, row)) (K false) ws.length _ hl.symm (inv_pass h ho) hk hk2).trans ?_
    rw [eI]
    unfold st1
    rw [hl]
set_option maxRecDepth 100000 in
theorem j5_eq {k : Nat} (K : Bool → Option X) (rec1 : St1 → Option X) (o : O) (ws : List W) (A : List CV) (N : Int) (I : Nat) (h : Inv ws) (ho : o.ok) (hI : I < 1000) (hk : 1000 < k) (hk2 : True) (b : Bool) (hbk : b = true → o.kind = 2 ∨ o.kind = 3 ∨ o.kind = 4) :
    ∃ ws', Inv ws' ∧ f6_J5 (fun X => @f7 X k) (fun X => @f17 X k) (fun X => @f8 X k) (fun X => @f9 X k) (fun X => @f19 X k) (fun X => @f18 X k) (fun X => @f28 X k) (fun X => @f29 X k) (fun X => @f27 X k) (fun X => @f26 X k) (fun X => @f16 X k) (fun X => @f20 X k) (fun X => @f21 X k) (fun X => @f22 X k) (fun X => @f23 X k) (fun X => @f24 X k) (fun X => @f11 X k) (fun X => @f25 X k) k K o.cv (iterV (f6_L2 (fun X => @f7 X k) (fun X => @f17 X k) (fun X => @f8 X k) (fun X => @f9 X k) (fun X => @f19 X k) (fun X => @f18 X k) (fun X => @f28 X k) (fun X => @f29 X k) (fun X => @f27 X k) (fun X => @f26 X k) (fun X => @f16 X k) (fun X => @f20 X k) (fun X => @f21 X k) (fun X => @f22 X k) (fun X => @f23 X k) (fun X => @f24 X k) (fun X => @f11 X k) (fun X => @f25 X k) k K rec1) k) (iterV (f6_L3 (fun X => @f7 X k) (fun X => @f17 X k) (fun X => @f8 X k) (fun X => @f9 X k) (fun X => @f19 X k) (fun X => @f18 X k) (fun X => @f28 X k) (fun X => @f29 X k) (fun X => @f27 X k) (fun X => @f26 X k) (fun X => @f16 X k) (fun X => @f20 X k) (fun X => @f21 X k) (fun X => @f22 X k) (fun X => @f23 X k) (fun X => @f24 X k) (fun X => @f11 X k) (fun X => @f25 X k) k K rec1) k) rec1 (st1 A N I ws) b = rec1 (st1 A N (I + 1) ws') := by
  unfold f6_J5
  cases b with
  | true =>
    refine ⟨_, inv_filter (fun x => !(pO o x)) h, ?_⟩
    refine (bifT rfl).trans ?_
    exact floop_eq K rec1 o ws A N I h ho.sz ho.tok hI hk hk2 (hbk rfl)
  | false =>
    cases h8 : o.kind == 8 with
    | true =>
      refine ⟨_, inv_turn o.w.server o.w.token o.w.c h, ?_⟩
      refine (bifF rfl).trans ?_
      refine (bifT h8).trans ?_
      exact tloop_eq K rec1 o ws A N I h ho.tok hI hk hk2
    | false =>
      cases h5 : o.kind == 5 with
      | true =>
        obtain ⟨ws', hi, e⟩ := j4_eq K rec1 o ws A N I h ho hI hk hk2 true
        refine ⟨ws', hi, ?_⟩
        refine (bifF rfl).trans ?_
        refine (bifF h8).trans ?_
        refine (bifT h5).trans ?_
        rw [show (CV.toI (CV.cellD 0 o.cv) == 5) = true from h5]
        exact e
      | false =>
        cases h6 : o.kind == 6 with
        | true =>
          obtain ⟨ws', hi, e⟩ := j4_eq K rec1 o ws A N I h ho hI hk hk2 true
          refine ⟨ws', hi, ?_⟩
          refine (bifF rfl).trans ?_
          refine (bifF h8).trans ?_
          refine (bifF h5).trans ?_
          refine (bifT h6).trans ?_
          rw [show (CV.toI (CV.cellD 0 o.cv) == 6) = true from h6]
          exact e
        | false =>
          obtain ⟨ws', hi, e⟩ := j4_eq K rec1 o ws A N I h ho hI hk hk2 (o.kind == 7)
          refine ⟨ws', hi, ?_⟩
          refine (bifF rfl).trans ?_
          refine (bifF h8).trans ?_
          refine (bifF h5).trans ?_
          refine (bifF h6).trans ?_
          exact e
set_option maxRecDepth 100000 in
theorem j6_eq {k : Nat} (K : Bool → Option X) (rec1 : St1 → Option X) (o : O) (ws : List W) (A : List CV) (N : Int) (I : Nat) (h : Inv ws) (ho : o.ok) (hI : I < 1000) (hk : 1000 < k) (hk2 : True) (b : Bool) :
    ∃ ws', Inv ws' ∧ f6_J6 (fun X => @f7 X k) (fun X => @f17 X k) (fun X => @f8 X k) (fun X => @f9 X k) (fun X => @f19 X k) (fun X => @f18 X k) (fun X => @f28 X k) (fun X => @f29 X k) (fun X => @f27 X k) (fun X => @f26 X k) (fun X => @f16 X k) (fun X => @f20 X k) (fun X => @f21 X k) (fun X => @f22 X k) (fun X => @f23 X k) (fun X => @f24 X k) (fun X => @f11 X k) (fun X => @f25 X k) k K o.cv (iterV (f6_L2 (fun X => @f7 X k) (fun X => @f17 X k) (fun X => @f8 X k) (fun X => @f9 X k) (fun X => @f19 X k) (fun X => @f18 X k) (fun X => @f28 X k) (fun X => @f29 X k) (fun X => @f27 X k) (fun X => @f26 X k) (fun X => @f16 X k) (fun X => @f20 X k) (fun X => @f21 X k) (fun X => @f22 X k) (fun X => @f23 X k) (fun X => @f24 X k) (fun X => @f11 X k) (fun X => @f25 X k) k K rec1) k) (iterV (f6_L3 (fun X => @f7 X k) (fun X => @f17 X k) (fun X => @f8 X k) (fun X => @f9 X k) (fun X => @f19 X k) (fun X => @f18 X k) (fun X => @f28 X k) (fun X => @f29 X k) (fun X => @f27 X k) (fun X => @f26 X k) (fun X => @f16 X k) (fun X => @f20 X k) (fun X => @f21 X k) (fun X => @f22 X k) (fun X => @f23 X k) (fun X => @f24 X k) (fun X => @f11 X k) (fun X => @f25 X k) k K rec1) k) rec1 (st1 A N I ws) b = rec1 (st1 A N (I + 1) ws') := by
  have hle := h.le
  obtain ⟨o1, o2, o3⟩ := ho.sz
  unfold f6_J6
  cases b with
  | true =>
    refine ⟨_, inv_add h ho, ?_⟩
    refine (bifT rfl).trans ?_
    refine (add_eq _ ws o.w h.ok h.le ho.tok (by omega) (by omega) (by omega) (by omega) (by omega)).trans ?_
    dsimp only
    unfold f19 f19_A f19_T
    refine (grdT rfl).trans ?_
    refine (grdT rfl).trans ?_
    refine (grdT rfl).trans ?_
    refine (grdT rfl).trans ?_
    refine (grdT rfl).trans ?_
    refine (grdT rfl).trans ?_
    refine (grdT rfl).trans ?_
    refine (grdT rfl).trans ?_
    refine (grdT rfl).trans ?_
    refine (grdT rfl).trans ?_
    refine (grdT rfl).trans ?_
    refine (grdT rfl).trans ?_
    refine (grdT rfl).trans ?_
    refine (grdT rfl).trans ?_
    refine (grdT rfl).trans ?_
    refine (grdT rfl).trans ?_
    refine (grdT rfl).trans ?_
    refine (grdT rfl).trans ?_
    refine (grdT rfl).trans ?_
    refine (grdT rfl).trans ?_
    refine (grdT rfl).trans ?_
    refine (grdT rfl).trans ?_
    have e0 : List.take (st1 A N I ws).1 (List.drop 0 (st1 A N I ws).2.2.2.2.1) = ws.map W.cv := takeMapD ws
    refine (refAdd_eq _ ws o.w h.le h.uq (fun x hx => by have := (h.sz x hx).1; omega) (by omega) (by omega) (by omega) (by omega) (by omega) (by omega) (by omega)).trans ?_
    refine (bifF (bne_self_eq_false _)).trans ?_
    refine (tail_eq' (fun n row => rec1 ((addW ws o.w).1.length, A, N, IntKind.wrap .i64 ((I : Int) + 1), (addW ws o.w).1.map W.cv, n, row)) (K false) _ _ rfl (inv_add h ho) hk hk2).trans ?_
    rw [wrap64_succ (by omega)]; rfl
  | false =>
    cases h2 : o.kind == 2 with
    | true =>
      obtain ⟨ws', hi, e⟩ := j5_eq K rec1 o ws A N I h ho hI hk hk2 true (fun _ => .inl (beq_iff_eq.1 h2))
      refine ⟨ws', hi, ?_⟩
      refine (bifF rfl).trans ?_
      refine (bifT h2).trans ?_
      rw [show (CV.toI (CV.cellD 0 o.cv) == 2) = true from h2]
      exact e
    | false =>
      cases h3 : o.kind == 3 with
      | true =>
        obtain ⟨ws', hi, e⟩ := j5_eq K rec1 o ws A N I h ho hI hk hk2 true (fun _ => .inr (.inl (beq_iff_eq.1 h3)))
        refine ⟨ws', hi, ?_⟩
        refine (bifF rfl).trans ?_
        refine (bifF h2).trans ?_
        refine (bifT h3).trans ?_
        rw [show (CV.toI (CV.cellD 0 o.cv) == 3) = true from h3]
        exact e
      | false =>
        obtain ⟨ws', hi, e⟩ := j5_eq K rec1 o ws A N I h ho hI hk hk2 (o.kind == 4) (fun h4 => .inr (.inr (beq_iff_eq.1 h4)))
        refine ⟨ws', hi, ?_⟩
        refine (bifF rfl).trans ?_
        refine (bifF h2).trans ?_
        refine (bifF h3).trans ?_
        exact e
set_option maxRecDepth 100000 in
theorem main_eq {k : Nat} (K : Bool → Option X) (os : List O) (hos : ∀ o ∈ os, o.ok) (hl : os.length ≤ 40) (hk : 1000 < k) (hk2 : True) : ∀ (kk i : Nat) (ws : List W), os.length - i < kk → i ≤ os.length → Inv ws →
    iterV (f6_L1 (fun X => @f7 X k) (fun X => @f17 X k) (fun X => @f8 X k) (fun X => @f9 X k) (fun X => @f19 X k) (fun X => @f18 X k) (fun X => @f28 X k) (fun X => @f29 X k) (fun X => @f27 X k) (fun X => @f26 X k) (fun X => @f16 X k) (fun X => @f20 X k) (fun X => @f21 X k) (fun X => @f22 X k) (fun X => @f23 X k) (fun X => @f24 X k) (fun X => @f11 X k) (fun X => @f25 X k) k K) kk (st1 (os.map O.cv) (os.length : Int) i ws) = K true
  | 0, _, _, h, _, _ => absurd h (Nat.not_lt_zero _)
  | kk + 1, i, ws, h, hi, hinv => by
    have ih := main_eq K os hos hl hk hk2 kk
    show f6_L1 (fun X => @f7 X k) (fun X => @f17 X k) (fun X => @f8 X k) (fun X => @f9 X k) (fun X => @f19 X k) (fun X => @f18 X k) (fun X => @f28 X k) (fun X => @f29 X k) (fun X => @f27 X k) (fun X => @f26 X k) (fun X => @f16 X k) (fun X => @f20 X k) (fun X => @f21 X k) (fun X => @f22 X k) (fun X => @f23 X k) (fun X => @f24 X k) (fun X => @f11 X k) (fun X => @f25 X k) k K (iterV (f6_L1 (fun X => @f7 X k) (fun X => @f17 X k) (fun X => @f8 X k) (fun X => @f9 X k) (fun X => @f19 X k) (fun X => @f18 X k) (fun X => @f28 X k) (fun X => @f29 X k) (fun X => @f27 X k) (fun X => @f26 X k) (fun X => @f16 X k) (fun X => @f20 X k) (fun X => @f21 X k) (fun X => @f22 X k) (fun X => @f23 X k) (fun X => @f24 X k) (fun X => @f11 X k) (fun X => @f25 X k) k K) kk) _ = K true
    generalize iterV (f6_L1 (fun X => @f7 X k) (fun X => @f17 X k) (fun X => @f8 X k) (fun X => @f9 X k) (fun X => @f19 X k) (fun X => @f18 X k) (fun X => @f28 X k) (fun X => @f29 X k) (fun X => @f27 X k) (fun X => @f26 X k) (fun X => @f16 X k) (fun X => @f20 X k) (fun X => @f21 X k) (fun X => @f22 X k) (fun X => @f23 X k) (fun X => @f24 X k) (fun X => @f11 X k) (fun X => @f25 X k) k K) kk = rec at ih ⊢
    unfold f6_L1 f6_T1
    rcases Nat.lt_or_ge i os.length with hlt | hge
    · refine (bifT (decide_eq_true (show (i : Int) < (os.length : Int) by omega))).trans ?_
      refine (grdT (dec0 i)).trans ?_
      refine (bAt (show (os.map O.cv)[Int.toNat (i : Int)]? = some os[i].cv from by rw [Int.toNat_natCast, List.getElem?_map, List.getElem?_eq_getElem hlt]; rfl) _).trans ?_
      refine (grdT rfl).trans ?_
      refine (grdT rfl).trans ?_
      refine (grdT rfl).trans ?_
      refine (grdT rfl).trans ?_
      refine (grdT rfl).trans ?_
      refine (grdT rfl).trans ?_
      refine (grdT rfl).trans ?_
      refine (grdT rfl).trans ?_
      refine (grdT rfl).trans ?_
      refine (grdT rfl).trans ?_
      refine (grdT rfl).trans ?_
      refine (grdT rfl).trans ?_
      refine (grdT rfl).trans ?_
      refine (grdT rfl).trans ?_
      refine (grdT rfl).trans ?_
      refine (grdT rfl).trans ?_
      refine (grdT rfl).trans ?_
      refine (grdT rfl).trans ?_
      refine (grdT rfl).trans ?_
      refine (grdT rfl).trans ?_
      refine (grdT rfl).trans ?_
      refine (grdT rfl).trans ?_
      refine (grdT rfl).trans ?_
      refine (grdT rfl).trans ?_
      refine (grdT rfl).trans ?_
      have ho := hos _ (List.getElem_mem hlt)
      generalize os[i] = o at ho
      cases h0 : o.kind == 0 with
      | true =>
        refine (bifT h0).trans ?_
        obtain ⟨ws', hi', e⟩ := j6_eq K rec o ws (os.map O.cv) (os.length : Int) i hinv ho (by omega) hk hk2 (o.kind == 0)
        exact e.trans (ih (i + 1) ws' (by omega) hlt hi')
      | false =>
        refine (bifF h0).trans ?_
        obtain ⟨ws', hi', e⟩ := j6_eq K rec o ws (os.map O.cv) (os.length : Int) i hinv ho (by omega) hk hk2 (o.kind == 1)
        exact e.trans (ih (i + 1) ws' (by omega) hlt hi')
    · exact bifF (decide_eq_false (show ¬ ((i : Int) < (os.length : Int)) by omega))
end
end Go.Proofs.YthlaobnnhghcfaaD
/- Watches, step by step: the law's row (printed by pr.py). -/
namespace Go.Proofs.YthlaobnnhghcfaaD
open Go Go.Proofs.YthlaobnnhghcfaaS Go.Proofs
set_option linter.unusedVariables false
set_option linter.unusedSimpArgs false
section
variable {X : Type}
def O.small (o : O) : Bool := decide (o.w.token.length ≤ 50) && (decide (o.w.path.length ≤ 10) && (o.w.v.short && (decide (o.vals.length ≤ 12) && o.vals.all Vl.short)))
def smallL (os : List O) : Bool := os.all O.small && decide (os.length ≤ 40)
theorem wrapS {i : Nat} (h : i + 1 < 9223372036854775808) : IntKind.wrap .i64 ((i : Int) + 1) = ((i + 1 : Nat) : Int) := by
  rw [wrap64 (by omega) (by omega)]; omega
theorem small2_eq {k : Nat} (K : Bool → Option X) (rec1 : List CV × List CV × Int × Int → Option X) (vs : List Vl) (A : List CV) (N : Int) (i : Nat) (hv : vs.length ≤ 12) (hi : i + 1 < 9223372036854775808) (hk : 1000 < k) :
    iterV (f17_L2 (fun X => @f14 X k) k K rec1) k (A, A, N, (i : Int), vs.map Vl.cv, (vs.length : Int), 0) = bif vs.all Vl.short then rec1 (A, A, N, ((i + 1 : Nat) : Int)) else K false := by
  refine iterV_spec (T := f17_L2 (fun X => @f14 X k) k K rec1) (fun j => (A, A, N, (i : Int), vs.map Vl.cv, (vs.length : Int), (j : Int))) (fun j => bif (vs.drop j).all Vl.short then rec1 (A, A, N, ((i + 1 : Nat) : Int)) else K false) vs.length (fun j rec h hr => ?_) (fun rec => ?_) k 0 (Nat.zero_le _) (by omega)
  · unfold f17_L2 f17_T2
    dsimp only
    refine (bifT (decide_eq_true (by omega))).trans ?_
    refine (grdT (dec0 _)).trans ?_
    rw [Int.toNat_natCast]
    refine (bAt (show (vs.map Vl.cv)[j]? = some vs[j].cv from by rw [List.getElem?_map, List.getElem?_eq_getElem h]; rfl) _).trans ?_
    refine (grdT rfl).trans ?_
    refine (grdT rfl).trans ?_
    refine (grdT rfl).trans ?_
    refine (grdT rfl).trans ?_
    refine (grdT rfl).trans ?_
    refine (grdT rfl).trans ?_
    refine (grdT rfl).trans ?_
    refine (short_eq _ vs[j]).trans ?_
    rw [all_drop _ _ _ h]
    cases vs[j].short with
    | false => rfl
    | true =>
      refine (bifF rfl).trans ?_
      rw [wrap64_succ (by omega), hr]; rfl
  · unfold f17_L2 f17_T2
    dsimp only
    refine (bifF (decide_eq_false (by omega))).trans ?_
    rw [List.drop_length, wrapS hi]; rfl
set_option maxRecDepth 100000 in
theorem small_eq {k : Nat} (K : Bool → Option X) (os : List O) (hk : os.length + 1000 < k) (hl : os.length < 9223372036854775808) : f17 k K (os.map O.cv) = K (smallL os) := by
  refine iterV_spec (T := f17_L1 (fun X => @f14 X k) k K) (fun i => (os.map O.cv, os.map O.cv, ((os.map O.cv).length : Int), (i : Int))) (fun i => K ((os.drop i).all O.small && decide (os.length ≤ 40))) os.length (fun i rec h hr => ?_) (fun rec => ?_) k 0 (Nat.zero_le _) (by omega)
  · unfold f17_L1 f17_T1
    dsimp only
    refine (bifT (decide_eq_true (by rw [List.length_map]; omega))).trans ?_
    refine (grdT (dec0 _)).trans ?_
    rw [Int.toNat_natCast]
    refine (bAt (show (os.map O.cv)[i]? = some os[i].cv from by rw [List.getElem?_map, List.getElem?_eq_getElem h]; rfl) _).trans ?_
    refine (grdT rfl).trans ?_
    refine (grdT rfl).trans ?_
    refine (grdT rfl).trans ?_
    refine (grdT rfl).trans ?_
    refine (grdT rfl).trans ?_
    refine (grdT rfl).trans ?_
    refine (grdT rfl).trans ?_
    refine (grdT rfl).trans ?_
    refine (grdT rfl).trans ?_
    refine (grdT rfl).trans ?_
    refine (grdT rfl).trans ?_
    refine (grdT rfl).trans ?_
    refine (grdT rfl).trans ?_
    refine (grdT rfl).trans ?_
    refine (grdT rfl).trans ?_
    refine (grdT rfl).trans ?_
    refine (grdT rfl).trans ?_
    refine (grdT rfl).trans ?_
    refine (grdT rfl).trans ?_
    refine (grdT rfl).trans ?_
    refine (grdT rfl).trans ?_
    refine (grdT rfl).trans ?_
    refine (grdT rfl).trans ?_
    refine (grdT rfl).trans ?_
    refine (grdT rfl).trans ?_
    rw [all_drop _ _ _ h]
    generalize os[i] = o
    rw [show O.small o = (decide (o.w.token.length ≤ 50) && (decide (o.w.path.length ≤ 10) && (o.w.v.short && (decide (o.vals.length ≤ 12) && o.vals.all Vl.short)))) from rfl]
    by_cases c1 : o.w.token.length ≤ 50
    · refine (bifF (decide_eq_false (show ¬ (((by8 o.w.token).length : Nat) : Int) > 50 by rw [by8_length]; omega))).trans ?_
      by_cases c2 : o.w.path.length ≤ 10
      · refine (bifF (decide_eq_false (show ¬ (((by64 o.w.path).length : Nat) : Int) > 10 by rw [by64_length]; omega))).trans ?_
        refine (short_eq _ o.w.v).trans ?_
        rw [decide_eq_true c1, decide_eq_true c2]
        cases o.w.v.short with
        | false => rfl
        | true =>
          refine (bifF rfl).trans ?_
          by_cases c3 : o.vals.length ≤ 12
          · refine (bifF (decide_eq_false (show ¬ (((o.vals.map Vl.cv).length : Nat) : Int) > 12 by rw [List.length_map]; omega))).trans ?_
            show iterV (f17_L2 (fun X => @f14 X k) k K rec) k (os.map O.cv, os.map O.cv, ((os.map O.cv).length : Int), (i : Int), o.vals.map Vl.cv, ((o.vals.map Vl.cv).length : Int), 0) = _
            rw [show (o.vals.map Vl.cv).length = o.vals.length from List.length_map ..]
            refine (small2_eq K rec o.vals _ _ i c3 (by omega) (by omega)).trans ?_
            rw [decide_eq_true c3, hr]
            cases o.vals.all Vl.short <;> rfl
          · refine (bifT (decide_eq_true (show (((o.vals.map Vl.cv).length : Nat) : Int) > 12 by rw [List.length_map]; omega))).trans ?_
            rw [decide_eq_false c3]; rfl
      · refine (bifT (decide_eq_true (show (((by64 o.w.path).length : Nat) : Int) > 10 by rw [by64_length]; omega))).trans ?_
        rw [decide_eq_true c1, decide_eq_false c2]; rfl
    · refine (bifT (decide_eq_true (show (((by8 o.w.token).length : Nat) : Int) > 50 by rw [by8_length]; omega))).trans ?_
      rw [decide_eq_false c1]; rfl
  · unfold f17_L1 f17_T1
    dsimp only
    refine (bifF (decide_eq_false (by rw [List.length_map]; omega))).trans ?_
    rw [List.drop_length, List.length_map]
    exact congrArg K (decide_eq_decide.2 (by omega))
theorem plays_eq {k : Nat} (K : Bool → Option X) (os : List O) (hk : os.length + 1000 < k) (hl : os.length < 9223372036854775808) (hb : ∀ o ∈ os, Byt o.w.token ∧ Byt o.w.v.b ∧ I64 o.w.v.n ∧ ∀ v ∈ o.vals, Byt v.b ∧ I64 v.n) : f6 k K (os.map O.cv) = K true := by
  unfold f6 f6_A f6_T
  refine (alive_eq _ (by omega)).trans ?_
  refine (bifF rfl).trans ?_
  refine (small_eq _ os hk hl).trans ?_
  cases hs : smallL os with
  | false => exact bifT rfl
  | true =>
    refine (bifF rfl).trans ?_
    refine (new_eq _).trans ?_
    unfold smallL at hs
    rw [Bool.and_eq_true, List.all_eq_true, decide_eq_true_eq] at hs
    rw [List.length_map]
    refine main_eq (k := k) K os (fun o ho => ?_) hs.2 (by omega) trivial k 0 [] (by omega) (Nat.zero_le _) ⟨fun w h => by simp at h, List.nodup_nil, by simp, fun w h => by simp at h⟩
    have h1 := hs.1 o ho
    obtain ⟨b1, b2, b3, b4⟩ := hb o ho
    simp only [O.small, Vl.short, Bool.and_eq_true, decide_eq_true_eq, List.all_eq_true] at h1
    obtain ⟨s1, s2, s3, s4, s5⟩ := h1
    exact ⟨⟨s1, s2, s3.2⟩, b1, b2, b3, fun v hv => ⟨⟨(b4 v hv).1, by have := (s5 v hv).2; omega, (b4 v hv).2⟩, (s5 v hv).2⟩⟩
abbrev VX : Type := Int × Int × ByteArray × List Int × Int × Int × Unit
abbrev CX : Type := Int × Int × Bool × Bool × Int × Int × Int × Bool × Bool × Bool × Unit
abbrev WX : Type := Int × List Int × List Int × CX × VX × Int × Int × Unit
abbrev OX : Type := Int × WX × List VX × Int × Unit
def wfV (x : VX) : Prop := (Lit.int .i64 x.1).wf = true ∧ (Lit.int .i64 x.2.1).wf = true ∧ x.2.2.1.size ≤ maxLen ∧ (x.2.2.2.1.length ≤ maxLen ∧ ∀ y ∈ x.2.2.2.1, (Lit.int .u8 y).wf = true) ∧ (Lit.int .i64 x.2.2.2.2.1).wf = true ∧ (Lit.int .i64 x.2.2.2.2.2.1).wf = true ∧ True
def wfC (x : CX) : Prop := (Lit.int .i64 x.1).wf = true ∧ (Lit.int .i64 x.2.1).wf = true ∧ True ∧ True ∧ (Lit.int .i64 x.2.2.2.2.1).wf = true ∧ (Lit.int .i64 x.2.2.2.2.2.1).wf = true ∧ (Lit.int .i64 x.2.2.2.2.2.2.1).wf = true ∧ True ∧ True ∧ True ∧ True
def wfW (x : WX) : Prop := (Lit.int .i64 x.1).wf = true ∧ (x.2.1.length ≤ maxLen ∧ ∀ y ∈ x.2.1, (Lit.int .u8 y).wf = true) ∧ (x.2.2.1.length ≤ maxLen ∧ ∀ y ∈ x.2.2.1, (Lit.int .i64 y).wf = true) ∧ wfC x.2.2.2.1 ∧ wfV x.2.2.2.2.1 ∧ (Lit.int .i64 x.2.2.2.2.2.1).wf = true ∧ (Lit.int .i64 x.2.2.2.2.2.2.1).wf = true ∧ True
def wfO (x : OX) : Prop := (Lit.int .i64 x.1).wf = true ∧ wfW x.2.1 ∧ (x.2.2.1.length ≤ maxLen ∧ ∀ y ∈ x.2.2.1, wfV y) ∧ (Lit.int .i64 x.2.2.2.1).wf = true ∧ True
def toV (x : VX) : Vl := ⟨x.1, x.2.1, x.2.2.1, x.2.2.2.1, x.2.2.2.2.1, x.2.2.2.2.2.1⟩
def toC (x : CX) : Cd := ⟨x.1, x.2.1, x.2.2.1, x.2.2.2.1, x.2.2.2.2.1, x.2.2.2.2.2.1, x.2.2.2.2.2.2.1, x.2.2.2.2.2.2.2.1, x.2.2.2.2.2.2.2.2.1, x.2.2.2.2.2.2.2.2.2.1⟩
def toW (x : WX) : W := ⟨x.1, x.2.1, x.2.2.1, toC x.2.2.2.1, toV x.2.2.2.2.1, x.2.2.2.2.2.1, x.2.2.2.2.2.2.1⟩
def toO (x : OX) : O := ⟨x.1, toW x.2.1, x.2.2.1.map toV, x.2.2.2.1⟩
def oxcv (x : OX) : CV := .agg [.int .i64 x.1, .int .i64 x.2.1.1, .slc none (x.2.1.2.1.map fun y => .int .u8 y), .slc none (x.2.1.2.2.1.map fun y => .int .i64 y), .int .i64 x.2.1.2.2.2.1.1, .int .i64 x.2.1.2.2.2.1.2.1, .bool x.2.1.2.2.2.1.2.2.1, .bool x.2.1.2.2.2.1.2.2.2.1, .int .i64 x.2.1.2.2.2.1.2.2.2.2.1, .int .i64 x.2.1.2.2.2.1.2.2.2.2.2.1, .int .i64 x.2.1.2.2.2.1.2.2.2.2.2.2.1, .bool x.2.1.2.2.2.1.2.2.2.2.2.2.2.1, .bool x.2.1.2.2.2.1.2.2.2.2.2.2.2.2.1, .bool x.2.1.2.2.2.1.2.2.2.2.2.2.2.2.2.1, .int .i64 x.2.1.2.2.2.2.1.1, .int .i64 x.2.1.2.2.2.2.1.2.1, .str x.2.1.2.2.2.2.1.2.2.1, .slc none (x.2.1.2.2.2.2.1.2.2.2.1.map fun y => .int .u8 y), .int .i64 x.2.1.2.2.2.2.1.2.2.2.2.1, .int .i64 x.2.1.2.2.2.2.1.2.2.2.2.2.1, .int .i64 x.2.1.2.2.2.2.2.1, .int .i64 x.2.1.2.2.2.2.2.2.1, .slc (some 6) (x.2.2.1.map fun x => .agg [.int .i64 x.1, .int .i64 x.2.1, .str x.2.2.1, .slc none (x.2.2.2.1.map fun y => .int .u8 y), .int .i64 x.2.2.2.2.1, .int .i64 x.2.2.2.2.2.1]), .int .i64 x.2.2.2.1]
theorem toO_cv (x : OX) : (toO x).cv = oxcv x := by
  unfold oxcv O.cv toO
  dsimp only
  rw [List.map_map]; rfl
theorem law_plays (x0 : List OX) (w0 : x0.length ≤ maxLen ∧ ∀ x ∈ x0, wfO x) : ∃ k, ∀ K : Bool → Option Out, f6 k K (x0.map oxcv) = K true :=
  ⟨x0.length + 2000, fun K => by
    have h := plays_eq (k := x0.length + 2000) K (x0.map toO) (by rw [List.length_map]; omega) (by rw [List.length_map]; exact Nat.lt_of_le_of_lt w0.1 maxLen_lt) (fun o ho => by
      obtain ⟨x, hx, rfl⟩ := List.mem_map.1 ho
      obtain ⟨_, ⟨_, h2, _, _, ⟨_, v2, _, v4, _⟩, _⟩, h3, _⟩ := w0.2 x hx
      refine ⟨wfByt h2.2, wfByt v4.2, wf64 v2, fun v hv => ?_⟩
      obtain ⟨y, hy, rfl⟩ := List.mem_map.1 hv
      obtain ⟨_, y2, _, y4, _⟩ := h3.2 y hy
      exact ⟨wfByt y4.2, wf64 y2⟩)
    rw [List.map_map, show O.cv ∘ toO = oxcv from funext toO_cv] at h
    exact h⟩
end
end Go.Proofs.YthlaobnnhghcfaaD
