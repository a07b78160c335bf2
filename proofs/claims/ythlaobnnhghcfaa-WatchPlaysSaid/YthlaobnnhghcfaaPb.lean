/- Watches, in plain words: what a value, a condition, a watch are; when a watch is due. -/
import Derived.Test.YthlaobnnhghcfaaPa
import Derived.Test.YthlaobnnhghcfaaLEqual
import Derived.Test.YthlaobnnhghcfaaLSame
import Derived.Test.YthlaobnnhghcfaaLClone
namespace Go.Proofs.YthlaobnnhghcfaaD
open Go Go.Proofs.YthlaobnnhghcfaaS Go.Proofs
set_option linter.unusedVariables false
set_option linter.unusedSimpArgs false
section
variable {X : Type}
def by64 (bs : List Int) : List CV := bs.map (CV.int .i64)
theorem by64_length (bs : List Int) : (by64 bs).length = bs.length := by simp [by64]
theorem by64_get (bs : List Int) (i : Nat) : (by64 bs)[i]? = bs[i]?.map (CV.int .i64) := by simp [by64]
/-- A value. -/
structure Vl where
  kind : Int
  n : Int
  s : ByteArray
  b : List Int
  obj : Int
  inst : Int
  deriving DecidableEq
/-- A condition. -/
structure Cd where
  pmin : Int
  pmax : Int
  hasMin : Bool
  hasMax : Bool
  gt : Int
  lt : Int
  st : Int
  hasGt : Bool
  hasLt : Bool
  hasSt : Bool
  deriving DecidableEq
/-- A watch. -/
structure W where
  server : Int
  token : List Int
  path : List Int
  c : Cd
  v : Vl
  at_ : Int
  seq : Int
  deriving DecidableEq
def Vl.cv (v : Vl) : CV := .agg [.int .i64 v.kind, .int .i64 v.n, .str v.s, .slc none (by8 v.b), .int .i64 v.obj, .int .i64 v.inst]
def Cd.cv (c : Cd) : CV := .agg [.int .i64 c.pmin, .int .i64 c.pmax, .bool c.hasMin, .bool c.hasMax, .int .i64 c.gt, .int .i64 c.lt, .int .i64 c.st, .bool c.hasGt, .bool c.hasLt, .bool c.hasSt]
def W.cv (w : W) : CV := .agg [.int .i64 w.server, .slc none (by8 w.token), .slc none (by64 w.path), .int .i64 w.c.pmin, .int .i64 w.c.pmax, .bool w.c.hasMin, .bool w.c.hasMax, .int .i64 w.c.gt, .int .i64 w.c.lt, .int .i64 w.c.st, .bool w.c.hasGt, .bool w.c.hasLt, .bool w.c.hasSt, .int .i64 w.v.kind, .int .i64 w.v.n, .str w.v.s, .slc none (by8 w.v.b), .int .i64 w.v.obj, .int .i64 w.v.inst, .int .i64 w.at_, .int .i64 w.seq]
def I64 (n : Int) : Prop := -9223372036854775808 ≤ n ∧ n < 9223372036854775808
/-- A value that is sized. -/
structure Vl.ok (v : Vl) : Prop where
  byt : Byt v.b
  len : v.b.length < 70368744177664
  n : I64 v.n
theorem strEq (a b : ByteArray) : (a.toList == b.toList) = decide (a = b) := by
  rw [ByteArray.toList_eq, ByteArray.toList_eq]
  by_cases h : a = b
  · simp [h]
  · rw [decide_eq_false h, beq_eq_false_iff_ne]
    exact fun e => h (ByteArray.ext (Array.toList_inj.1 e))
theorem intEq (a b : Int) : (a == b) = decide (a = b) := by by_cases h : a = b <;> simp [h]
theorem valSame_eq {k : Nat} (K : Bool → Option X) (v u : Vl) (hv : Byt v.b) (hu : Byt u.b) : f53 k K v.cv u.cv = K (decide (v = u)) := by
  have e : f53 k K v.cv u.cv = (bif v.kind == u.kind then (bif v.n == u.n then (bif v.s.toList == u.s.toList then
      f42 k (fun u1 => bif u1 then (bif v.obj == u.obj then K (v.inst == u.inst) else K false) else K false) (by8 v.b) (by8 u.b) else K false) else K false) else K false) := by kernel_rfl
  rw [e, bytesEqual_eq _ _ _ hv hu, strEq]
  clear e
  obtain ⟨k1, n1, s1, b1, o1, i1⟩ := v
  obtain ⟨k2, n2, s2, b2, o2, i2⟩ := u
  simp only [Vl.mk.injEq, intEq]
  by_cases h1 : k1 = k2 <;> by_cases h2 : n1 = n2 <;> by_cases h3 : s1 = s2 <;> by_cases h4 : b1 = b2 <;> by_cases h5 : o1 = o2 <;> by_cases h6 : i1 = i2 <;> simp [h1, h2, h3, h4, h5, h6]
theorem refSame_eq {k : Nat} (K : Bool → Option X) (v u : Vl) (hk : v.b.length < k) (hl : v.b.length < 4611686018427387904) : f15 k K v.cv u.cv = K (decide (v = u)) := by
  have e : f15 k K v.cv u.cv = (bif v.kind == u.kind then (bif v.n == u.n then (bif v.s.toList == u.s.toList then
      f16 k (fun u1 => bif u1 then (bif v.obj == u.obj then K (v.inst == u.inst) else K false) else K false) (by8 v.b) (by8 u.b) else K false) else K false) else K false) := by kernel_rfl
  rw [e, same_eq _ _ _ hk hl, strEq]
  clear e
  obtain ⟨k1, n1, s1, b1, o1, i1⟩ := v
  obtain ⟨k2, n2, s2, b2, o2, i2⟩ := u
  simp only [Vl.mk.injEq, intEq]
  by_cases h1 : k1 = k2 <;> by_cases h2 : n1 = n2 <;> by_cases h3 : s1 = s2 <;> by_cases h4 : b1 = b2 <;> by_cases h5 : o1 = o2 <;> by_cases h6 : i1 = i2 <;> simp [h1, h2, h3, h4, h5, h6]
/-- Is a value a number? -/
def Vl.num (v : Vl) : Bool := v.kind == 1 || (v.kind == 5 || v.kind == 2)
theorem counted_eq {k : Nat} (K : Bool → Option X) (v : Vl) : f54 k K v.cv = K v.num := by
  have e : f54 k K v.cv = (bif v.kind == 1 then K true else bif v.kind == 5 then K true else K (v.kind == 2)) := by kernel_rfl
  rw [e]
  unfold Vl.num
  cases v.kind == 1 <;> cases v.kind == 5 <;> rfl
/-- By how much two numbers differ. -/
def far (a b : Int) : Int := if b ≥ a then (if b - a < 9223372036854775808 then b - a else 9223372036854775807) else (if a - b < 9223372036854775808 then a - b else 9223372036854775807)
theorem apart_eq {k : Nat} (K : Int → Option X) (a b : Int) (ha : I64 a) (hb : I64 b) : f56 k K a b = K (far a b) := by
  have e : f56 k K a b = (bif (decide ((IntKind.wrap .i64 ((if b > a then b else a) - (if b < a then b else a))) ≥ 0)) then
      K ((IntKind.wrap .i64 ((if b > a then b else a) - (if b < a then b else a)))) else K 9223372036854775807) := by kernel_rfl
  obtain ⟨ha1, ha2⟩ := ha
  obtain ⟨hb1, hb2⟩ := hb
  rw [e, bif_dec]
  unfold far
  have w1 : ∀ d : Int, 0 ≤ d → d < 18446744073709551616 → IntKind.wrap .i64 d = if d < 9223372036854775808 then d else d - 18446744073709551616 := fun d h1 h2 => by
    simp only [IntKind.wrap, IntKind.bits, IntKind.signed]
    simp
    split <;> omega
  by_cases h : b ≥ a
  · rw [if_pos h, show (if b > a then b else a) = b by split <;> omega, show (if b < a then b else a) = a by split <;> omega, w1 _ (by omega) (by omega)]
    by_cases h2 : b - a < 9223372036854775808
    · rw [if_pos h2, if_pos h2, if_pos (by omega)]
    · rw [if_neg h2, if_neg h2, if_neg (by omega)]
  · rw [if_neg h, show (if b > a then b else a) = a by split <;> omega, show (if b < a then b else a) = b by split <;> omega, w1 _ (by omega) (by omega)]
    by_cases h2 : a - b < 9223372036854775808
    · rw [if_pos h2, if_pos h2, if_pos (by omega)]
    · rw [if_neg h2, if_neg h2, if_neg (by omega)]
/-- Is a change of numbers one that counts? -/
def Cd.pass (c : Cd) (a b : Int) : Bool := (c.hasGt && !(decide (a > c.gt) == decide (b > c.gt))) || ((c.hasLt && !(decide (a < c.lt) == decide (b < c.lt))) || (c.hasSt && decide (far a b ≥ c.st)))
set_option maxRecDepth 100000 in
theorem passes_eq {k : Nat} (K : Bool → Option X) (c : Cd) (a b : Int) (ha : I64 a) (hb : I64 b) : f55 k K c.cv a b = K (c.pass a b) := by
  have e : f55 k K c.cv a b = (
      let S := (bif c.hasSt then f56 k (fun u => K (decide (u ≥ c.st))) a b else K false)
      let P := !(decide (a > c.gt) == decide (b > c.gt))
      let Q := !(decide (a < c.lt) == decide (b < c.lt))
      bif c.hasGt then (bif c.hasLt then (bif P then K true else bif Q then K true else S) else (bif P then K true else S))
      else (bif c.hasLt then (bif Q then K true else S) else S)) := by kernel_rfl
  rw [e, apart_eq _ _ _ ha hb]
  unfold Cd.pass
  generalize (!(decide (a > c.gt) == decide (b > c.gt))) = P
  generalize (!(decide (a < c.lt) == decide (b < c.lt))) = Q
  generalize (decide (far a b ≥ c.st)) = R
  cases c.hasGt <;> cases c.hasLt <;> cases c.hasSt <;> cases P <;> cases Q <;> rfl
/-- Is a change of values one that counts? -/
def Cd.turn (c : Cd) (v u : Vl) : Bool := !(decide (v = u)) && ((!c.hasGt && !c.hasLt && !c.hasSt) || (!v.num || (!u.num || c.pass v.n u.n)))
set_option maxRecDepth 100000 in
theorem changed_eq {k : Nat} (K : Bool → Option X) (c : Cd) (v u : Vl) (hv : v.ok) (hu : u.ok) : f50 k K c.cv v.cv u.cv = K (c.turn v u) := by
  have e : f50 k K c.cv v.cv u.cv = f53 k (fun u14 =>
      let J : Bool → Option X := fun t => bif t then K true else f55 k (fun r => K r) c.cv v.n u.n
      let N := f54 k (fun r => bif !r then J (!r) else f54 k (fun q => J (!q)) u.cv) v.cv
      bif u14 then K false else bif !c.hasGt then (bif !c.hasLt then (bif !c.hasSt then J (!c.hasSt) else N) else N) else N) v.cv u.cv := by kernel_rfl
  rw [e, valSame_eq _ _ _ hv.byt hu.byt]
  simp only [counted_eq, passes_eq _ _ _ _ hv.n hu.n]
  unfold Cd.turn
  cases decide (v = u) <;> cases c.hasGt <;> cases c.hasLt <;> cases c.hasSt <;> cases v.num <;> cases u.num <;> rfl
/-- Is a watch due, at a time as it counts? -/
def W.due (w : W) (v : Vl) (now : Int) : Bool :=
  bif decide (now - w.at_ < (if w.c.hasMin = true ∧ w.c.pmin > 1 then w.c.pmin else 1)) then false
  else (w.c.hasMax && (decide (w.c.pmax > 0) && decide (now - w.at_ ≥ w.c.pmax))) || w.c.turn w.v v
/-- A watch that is sized. -/
structure W.ok (w : W) : Prop where
  tok : Byt w.token
  tokl : w.token.length < 70368744177664
  pathl : w.path.length < 8796093022208
  v : w.v.ok
  at0 : 0 ≤ w.at_
  at1 : w.at_ ≤ 1099511627776
  seq0 : 0 ≤ w.seq
  seq1 : w.seq < 16777216
set_option maxRecDepth 100000 in
theorem due_eq {k : Nat} (K : Bool → Option X) (w : W) (v : Vl) (now : Int) (hw : w.ok) (hv : v.ok) (h0 : 0 ≤ now) (h1 : now ≤ 1099511627776) : f34 k K w.cv v.cv now = K (w.due v now) := by
  have e : f34 k K w.cv v.cv now = (
      let C := f50 k (fun r => K r) w.c.cv w.v.cv v.cv
      let G := IntKind.wrap .i64 (now - w.at_)
      let J : Int → Option X := fun m => bif decide (G < m) then K false else bif w.c.hasMax then (bif decide (w.c.pmax > 0) then (bif decide (G ≥ w.c.pmax) then K true else C) else C) else C
      bif w.c.hasMin then J (if w.c.pmin > 1 then w.c.pmin else 1) else J 1) := by kernel_rfl
  have g0 := hw.at0
  have g1 := hw.at1
  rw [e, changed_eq _ _ _ _ hw.v hv, wrap64 (by omega) (by omega)]
  unfold W.due
  simp only
  cases w.c.hasMin with
  | true =>
    simp only [true_and, cond_true]
    generalize decide (now - w.at_ < (if w.c.pmin > 1 then w.c.pmin else 1)) = a
    generalize decide (now - w.at_ ≥ w.c.pmax) = b
    generalize decide (w.c.pmax > 0) = d
    cases a <;> cases w.c.hasMax <;> cases d <;> cases b <;> rfl
  | false =>
    simp only [Bool.false_eq_true, false_and, if_false, cond_false]
    generalize decide (now - w.at_ < 1) = a
    generalize decide (now - w.at_ ≥ w.c.pmax) = b
    generalize decide (w.c.pmax > 0) = d
    cases a <;> cases w.c.hasMax <;> cases d <;> cases b <;> rfl
end
end Go.Proofs.YthlaobnnhghcfaaD
