/- What an operation's evaluation hangs on, and what it turns. -/
import Derived.Test.YtlaojkheenobaaaDoorTE
namespace Go.Proofs.YtlaojkheenobaaaDoorS
open Go Go.RowKit
set_option linter.unusedVariables false
set_option linter.unusedSimpArgs false
section
variable {X Y : Type} {T : Tab} {out : X}
theorem asI_fr {x : AVal} {K : Int → Option X} (h : asI x K = some out) : ∃ z, K z = some out ∧ ∀ K' : Int → Option Y, asI x K' = K' z := by
  unfold asI at h ⊢
  split at h
  · exact ⟨_, h, fun K' => rfl⟩
  · cases h
theorem asB_fr {x : AVal} {K : Bool → Option X} (h : asB x K = some out) : ∃ z, K z = some out ∧ ∀ K' : Bool → Option Y, asB x K' = K' z := by
  unfold asB at h ⊢
  split at h
  · exact ⟨_, h, fun K' => rfl⟩
  · cases h
theorem asIO_fr {x : Option AVal} {d : Int} {K : Int → Option X} (h : asIO x d K = some out) : ∃ z, K z = some out ∧ ∀ K' : Int → Option Y, asIO x d K' = K' z := by
  unfold asIO at h ⊢
  split at h
  · exact asI_fr h
  · exact ⟨_, h, fun K' => rfl⟩
theorem evInt_fr {op : BinOp} {k : IntKind} {a b : Int} {K : AVal → Option X} (h : evInt op k a b K = some out) : ∃ z, K z = some out ∧ ∀ K' : AVal → Option Y, evInt op k a b K' = K' z := by
  cases op <;> (first | (cases h; done) | exact ⟨_, h, fun K' => rfl⟩ | exact ⟨_, (grd_some h).2, fun K' => by show grd _ (K' _) = K' _; rw [(grd_some h).1]; rfl⟩)
theorem evShift_fr {op : BinOp} {k : IntKind} {a b : Int} {K : AVal → Option X} (h : evShift op k a b K = some out) : ∃ z, K z = some out ∧ ∀ K' : AVal → Option Y, evShift op k a b K' = K' z := by
  cases op <;> (first | (cases h; done) | exact ⟨_, h, fun K' => rfl⟩ | exact ⟨_, (grd_some h).2, fun K' => by show grd _ (K' _) = K' _; rw [(grd_some h).1]; rfl⟩)
theorem evStr_fr {op : BinOp} {a b : ByteArray} {K : AVal → Option X} (h : evStr op a b K = some out) : ∃ z, K z = some out ∧ ∀ K' : AVal → Option Y, evStr op a b K' = K' z := by
  cases op <;> (first | (cases h; done) | exact ⟨_, h, fun K' => rfl⟩ | exact ⟨_, (grd_some h).2, fun K' => by show grd _ (K' _) = K' _; rw [(grd_some h).1]; rfl⟩)
theorem evUn_fr {op : UnOp} {x : AVal} {K : AVal → Option X} (h : evUn op x K = some out) : ∃ z, K z = some out ∧ ∀ K' : AVal → Option Y, evUn op x K' = K' z := by
  unfold evUn at h ⊢
  split at h <;> (first | (cases h; done) | exact ⟨_, h, fun K' => rfl⟩ | exact ⟨_, (grd_some h).2, fun K' => by show grd _ (K' _) = K' _; rw [(grd_some h).1]; rfl⟩)
theorem evBin_fr {op : BinOp} {t : Nat} {x y : AVal} {K : AVal → Option X} (h : evBin T op t x y K = some out) : ∃ z, K z = some out ∧ ∀ K' : AVal → Option Y, evBin T op t x y K' = K' z := by
  unfold evBin at h ⊢
  split at h
  · cases e : isShift op with
    | true => rw [e] at h; exact evShift_fr h
    | false =>
      rw [e] at h
      obtain ⟨h1, h⟩ := grd_some h
      obtain ⟨z, h2, h3⟩ := evInt_fr (Y := Y) h
      exact ⟨z, h2, fun K' => by simp only [cond_false, h1, grd, cond_true, h3]⟩
  · obtain ⟨h1, h⟩ := grd_some h
    cases op <;> first | (cases h; done) | exact ⟨_, h, fun K' => by simp only [h1, grd, cond_true]⟩
  · exact evStr_fr h
  · obtain ⟨h1, h⟩ := grd_some h
    cases op <;> first | (cases h; done) | exact ⟨_, h, fun K' => by simp only [h1, grd, cond_true]⟩
  · cases h
theorem aliveN_eq {ns ns' : Nodes} {nm : Nm} (h : find nm ns' = find nm ns) : aliveN ns' nm = aliveN ns nm := by unfold aliveN; rw [h]
theorem bnd_fr {l h n : Int} {k : Option X} (e : bnd l h n k = some out) : k = some out ∧ ∀ k' : Option Y, bnd l h n k' = k' := by
  unfold bnd at e
  obtain ⟨e1, e⟩ := grd_some e
  obtain ⟨e2, e⟩ := grd_some e
  obtain ⟨e3, e⟩ := grd_some e
  exact ⟨e, fun k' => by unfold bnd; rw [e1, e2, e3]; rfl⟩
/-- Two nodes have the same under the names of a value. -/
def Same (l : List Nm) (ns ns' : Nodes) : Prop := ∀ nm ∈ l, find nm ns' = find nm ns
theorem bounds_fr {lo hi : Option AVal} {n : Int} {F : Int → Int → Option X} (h : (asIO lo 0 fun l => asIO hi n fun h => bnd l h n (F l h)) = some out) :
    ∃ l u, F l u = some out ∧ ∀ F' : Int → Int → Option Y, (asIO lo 0 fun l => asIO hi n fun h => bnd l h n (F' l h)) = F' l u := by
  obtain ⟨l, h, k1⟩ := asIO_fr (Y := Y) h
  obtain ⟨u, h, k2⟩ := asIO_fr (Y := Y) h
  obtain ⟨h, k3⟩ := bnd_fr (Y := Y) h
  exact ⟨l, u, h, fun F' => by rw [k1, k2, k3]⟩
theorem evSlice_fr {ns : Nodes} {t : Nat} {x : AVal} {lo hi mx : Option AVal} {K : AVal → Option X} (h : evSlice T ns t x lo hi mx K = some out) :
    ∃ z, K z = some out ∧ ∀ ns', Same x.names ns ns' → ∀ K' : AVal → Option Y, evSlice T ns' t x lo hi mx K' = K' z := by
  unfold evSlice at h
  split at h
  case h_5 nm sh off len =>
    split at h
    · next fz sh' xs hf =>
      obtain ⟨h1, h⟩ := grd_some h
      obtain ⟨l, h, k1⟩ := asIO_fr (Y := Y) h
      cases hi with
      | none =>
        obtain ⟨h, k2⟩ := bnd_fr (Y := Y) h
        refine ⟨_, h, fun ns' hs K' => ?_⟩
        unfold evSlice
        simp only [hs _ List.mem_cons_self, hf]
        rw [h1, k1]
        exact k2 _
      | some hi =>
        obtain ⟨q, h, k2⟩ := asI_fr (Y := Y) h
        obtain ⟨h, k3⟩ := bnd_fr (Y := Y) h
        refine ⟨_, h, fun ns' hs K' => ?_⟩
        unfold evSlice
        simp only [hs _ List.mem_cons_self, hf]
        rw [h1, k1]
        show asI hi _ = _
        rw [k2]
        exact k3 _
    · cases h
  case h_6 nm sz q j =>
    split at h
    · next n e _ _ _ fz xs ht hf =>
      obtain ⟨h1, h⟩ := grd_some h
      obtain ⟨l, u, h, k⟩ := bounds_fr (Y := Y) h
      obtain ⟨h2, h⟩ := grd_some h
      refine ⟨_, h, fun ns' hs K' => ?_⟩
      unfold evSlice
      simp only [hs _ List.mem_cons_self, hf, ht]
      rw [h1]
      refine (k (fun l u => grd _ (K' _))).trans ?_
      rw [h2]; rfl
    · cases h
  case h_7 nm sh off len mx' =>
    split at h
    · next fz sh' xs hi' hf =>
      obtain ⟨h1, h⟩ := grd_some h
      obtain ⟨l, h, k1⟩ := asIO_fr (Y := Y) h
      obtain ⟨q, h, k2⟩ := asI_fr (Y := Y) h
      obtain ⟨m, h, k3⟩ := asI_fr (Y := Y) h
      obtain ⟨h, k4⟩ := bnd_fr (Y := Y) h
      obtain ⟨h2, h⟩ := grd_some h
      cases hd : decide (m = (xs.length : Int) - (off : Int)) with
      | true =>
        rw [hd] at h
        refine ⟨_, h, fun ns' hs K' => ?_⟩
        unfold evSlice
        simp only [hs _ List.mem_cons_self, hf]
        rw [h1, k1]
        show asI hi' _ = _
        rw [k2, k3, k4, h2, hd]
        rfl
      | false =>
        rw [hd] at h
        refine ⟨_, h, fun ns' hs K' => ?_⟩
        unfold evSlice
        simp only [hs _ List.mem_cons_self, hf]
        rw [h1, k1]
        show asI hi' _ = _
        rw [k2, k3, k4, h2, hd]
        rfl
    · cases h
  case h_8 p sh xs mx' =>
    split at h
    · next hi' =>
      obtain ⟨h1, h⟩ := grd_some h
      obtain ⟨l, h, k1⟩ := asIO_fr (Y := Y) h
      obtain ⟨q, h, k2⟩ := asI_fr (Y := Y) h
      obtain ⟨m, h, k3⟩ := asI_fr (Y := Y) h
      obtain ⟨h, k4⟩ := bnd_fr (Y := Y) h
      obtain ⟨h2, h⟩ := grd_some h
      refine ⟨_, h, fun ns' hs K' => ?_⟩
      unfold evSlice
      simp only
      rw [h1, k1]
      show asI hi' _ = _
      rw [k2, k3, k4, h2]
      rfl
    · cases h
  all_goals first
    | (cases h; done)
    | (obtain ⟨h1, h⟩ := grd_some h
       obtain ⟨l, u, h, k⟩ := bounds_fr (Y := Y) h
       refine ⟨_, h, fun ns' hs K' => ?_⟩
       unfold evSlice
       simp only
       rw [h1]; exact k (fun l u => K' _))
theorem evIndexAddr_fr {ns : Nodes} {t : Nat} {x i : AVal} {K : AVal → Option X} (h : evIndexAddr T ns t x i K = some out) :
    ∃ z, K z = some out ∧ ∀ ns', Same x.names ns ns' → ∀ K' : AVal → Option Y, evIndexAddr T ns' t x i K' = K' z := by
  unfold evIndexAddr at h
  obtain ⟨i', h, k1⟩ := asI_fr (Y := Y) h
  unfold evIndexAddr
  split at h
  · obtain ⟨h1, h⟩ := grd_some h
    obtain ⟨h2, h⟩ := grd_some h
    obtain ⟨h3, h⟩ := grd_some h
    refine ⟨_, h, fun ns' hs K' => ?_⟩
    rw [k1]
    rw [aliveN_eq (hs _ List.mem_cons_self), h1, h2, h3]; rfl
  · obtain ⟨h1, h⟩ := grd_some h
    obtain ⟨h2, h⟩ := grd_some h
    obtain ⟨y, h3, h⟩ := Option.bind_eq_some_iff.1 h
    refine ⟨_, h, fun ns' hs K' => ?_⟩
    rw [k1]
    rw [h1, h2, h3]; rfl
  · obtain ⟨h1, h⟩ := grd_some h
    obtain ⟨h2, h⟩ := grd_some h
    obtain ⟨y, h3, h⟩ := Option.bind_eq_some_iff.1 h
    refine ⟨_, h, fun ns' hs K' => ?_⟩
    rw [k1]
    rw [h1, h2, h3]; rfl
  · split at h
    · next e =>
      obtain ⟨h1, h⟩ := grd_some h
      obtain ⟨h2, h⟩ := grd_some h
      obtain ⟨h3, h⟩ := grd_some h
      refine ⟨_, h, fun ns' hs K' => ?_⟩
      rw [k1]
      rw [aliveN_eq (hs _ List.mem_cons_self), h1, h2, h3]; rfl
    · cases h
  · split at h
    · next e =>
      obtain ⟨h1, h⟩ := grd_some h
      obtain ⟨h2, h⟩ := grd_some h
      obtain ⟨h3, h⟩ := grd_some h
      refine ⟨_, h, fun ns' hs K' => ?_⟩
      rw [k1]
      rw [h1, h2, h3]; rfl
    · cases h
  · cases h
theorem evIndexAddr_al {ns : Nodes} {t : Nat} {x i : AVal} {K : AVal → Option X} (h : evIndexAddr T ns t x i K = some out) :
    ∃ z, K z = some out ∧ ∀ ns', (∀ nm, aliveN ns' nm = aliveN ns nm) → ∀ K' : AVal → Option Y, evIndexAddr T ns' t x i K' = K' z := by
  unfold evIndexAddr at h
  obtain ⟨i', h, k1⟩ := asI_fr (Y := Y) h
  unfold evIndexAddr
  split at h
  · obtain ⟨h1, h⟩ := grd_some h
    obtain ⟨h2, h⟩ := grd_some h
    obtain ⟨h3, h⟩ := grd_some h
    refine ⟨_, h, fun ns' hs K' => ?_⟩
    rw [k1]
    rw [hs _, h1, h2, h3]; rfl
  · obtain ⟨h1, h⟩ := grd_some h
    obtain ⟨h2, h⟩ := grd_some h
    obtain ⟨y, h3, h⟩ := Option.bind_eq_some_iff.1 h
    refine ⟨_, h, fun ns' hs K' => ?_⟩
    rw [k1]
    rw [h1, h2, h3]; rfl
  · obtain ⟨h1, h⟩ := grd_some h
    obtain ⟨h2, h⟩ := grd_some h
    obtain ⟨y, h3, h⟩ := Option.bind_eq_some_iff.1 h
    refine ⟨_, h, fun ns' hs K' => ?_⟩
    rw [k1]
    rw [h1, h2, h3]; rfl
  · split at h
    · next e =>
      obtain ⟨h1, h⟩ := grd_some h
      obtain ⟨h2, h⟩ := grd_some h
      obtain ⟨h3, h⟩ := grd_some h
      refine ⟨_, h, fun ns' hs K' => ?_⟩
      rw [k1]
      rw [hs _, h1, h2, h3]; rfl
    · cases h
  · split at h
    · next e =>
      obtain ⟨h1, h⟩ := grd_some h
      obtain ⟨h2, h⟩ := grd_some h
      obtain ⟨h3, h⟩ := grd_some h
      refine ⟨_, h, fun ns' hs K' => ?_⟩
      rw [k1]
      rw [h1, h2, h3]; rfl
    · cases h
  · cases h
theorem elemLoad_fr {t : Nat} {sh : Option Nat} {x : CV} {j : Nat} {K : AVal → Option X} (h : elemLoad T t sh x j K = some out) : ∃ z, K z = some out ∧ ∀ K' : AVal → Option Y, elemLoad T t sh x j K' = K' z := by
  unfold elemLoad at h ⊢
  split at h
  · obtain ⟨h1, h⟩ := grd_some h
    obtain ⟨h2, h⟩ := grd_some h
    exact ⟨_, h, fun K' => by simp only [h1, h2, grd, cond_true]⟩
  · cases e : isAggT T t with
    | true =>
      rw [e] at h
      simp only [cond_true] at h ⊢
      next n =>
      cases e2 : (Nat.beq j 0 && Nat.beq (sizeT T t) n) with
      | true => rw [e2] at h; exact ⟨_, h, fun K' => rfl⟩
      | false =>
        rw [e2] at h
        obtain ⟨c, h1, h⟩ := Option.bind_eq_some_iff.1 h
        exact ⟨_, h, fun K' => by rw [h1]; rfl⟩
    | false =>
      rw [e] at h
      obtain ⟨c, h1, h⟩ := Option.bind_eq_some_iff.1 h
      exact ⟨_, h, fun K' => by simp only [cond_false, h1, Option.bind_some]⟩
theorem leafZ_fr {z : AVal} {c : CV} {K : AVal → Option X} (h : leafZ z c K = some out) : ∃ x, K x = some out ∧ soft0 x = true ∧ ∀ K' : AVal → Option Y, leafZ z c K' = K' x := by
  unfold leafZ at h ⊢
  split at h
  · obtain ⟨h1, h⟩ := grd_some h
    exact ⟨_, h, rfl, fun K' => by simp only [h1, grd, cond_true]⟩
  · obtain ⟨h1, h⟩ := grd_some h
    exact ⟨_, h, rfl, fun K' => by simp only [h1, grd, cond_true]⟩
  · obtain ⟨h1, h⟩ := grd_some h
    exact ⟨_, h, rfl, fun K' => by simp only [h1, grd, cond_true]⟩
  · obtain ⟨h1, h⟩ := grd_some h
    exact ⟨_, h, rfl, fun K' => by simp only [h1, grd, cond_true]⟩
  · exact ⟨_, h, rfl, fun K' => rfl⟩
theorem leavesZ_fr {c : CV} : ∀ (zs : List AVal) (j : Nat) (us : List AVal) {K : List AVal → Option X}, leavesZ zs j c us K = some out → us.all soft0 = true → ∃ xs, K xs = some out ∧ xs.all soft0 = true ∧ ∀ K' : List AVal → Option Y, leavesZ zs j c us K' = K' xs
  | [], j, us, K, h, hu => ⟨_, h, by simpa using hu, fun K' => rfl⟩
  | z :: zs, j, us, K, h, hu => by
    unfold leavesZ at h
    obtain ⟨x, h, hs, k⟩ := leafZ_fr (Y := Y) h
    obtain ⟨xs, h, hs2, k2⟩ := leavesZ_fr zs (j + 1) (x :: us) h (by simp only [List.all_cons, hs, hu]; rfl)
    exact ⟨xs, h, hs2, fun K' => by unfold leavesZ; rw [k, k2]⟩
theorem typed_fr {t : Nat} {x : AVal} {K : AVal → Option X} (h : typed T t x K = some out) : ∃ z, K z = some out ∧ ∀ K' : AVal → Option Y, typed T t x K' = K' z := by
  unfold typed at h ⊢
  split at h
  · obtain ⟨z, h, _, k⟩ := leafZ_fr (Y := Y) h
    exact ⟨z, h, k⟩
  · cases e : isLeafT T t with
    | true => rw [e] at h; cases h
    | false => rw [e] at h; exact ⟨_, h, fun K' => rfl⟩
theorem expand_fr {t : Nat} {x : AVal} {K : AVal → Option X} (h : expand T t x K = some out) : ∃ z, K z = some out ∧ (z = x ∨ ∃ us, z = .agg us ∧ us.all soft0 = true) ∧ ∀ K' : AVal → Option Y, expand T t x K' = K' z := by
  unfold expand at h ⊢
  split at h
  · cases ha : isAggT T t with
    | false => rw [ha] at h; exact ⟨_, h, .inl rfl, fun K' => rfl⟩
    | true =>
      rw [ha] at h
      simp only [cond_true] at h ⊢
      split at h
      · obtain ⟨h1, h⟩ := grd_some h
        obtain ⟨xs, h, hs, k⟩ := leavesZ_fr (Y := Y) _ 0 [] h rfl
        exact ⟨_, h, .inr ⟨xs, rfl, hs⟩, fun K' => by simp only [h1, grd, cond_true]; exact k fun us => K' (.agg us)⟩
      · obtain ⟨h1, h⟩ := grd_some h
        obtain ⟨xs, h, hs, k⟩ := leavesZ_fr (Y := Y) _ 0 [] h rfl
        exact ⟨_, h, .inr ⟨xs, rfl, hs⟩, fun K' => by simp only [h1, grd, cond_true]; exact k fun us => K' (.agg us)⟩
      · exact ⟨_, h, .inl rfl, fun K' => rfl⟩
  · exact ⟨_, h, .inl rfl, fun K' => rfl⟩
theorem grd_t {b : Bool} {k : Option X} (h : b = true) : grd b k = k := by rw [h]; rfl
theorem eqLeaf_fr {t : Nat} {x y : AVal} {K : Bool → Option X} (h : eqLeaf T t x y K = some out) : ∃ b, K b = some out ∧ ∀ K' : Bool → Option Y, eqLeaf T t x y K' = K' b := by
  unfold eqLeaf at h ⊢
  split at h
  · next e =>
    obtain ⟨h1, h⟩ := grd_some h
    exact ⟨_, h, fun K' => by simp only [h1, grd, cond_true]⟩
  · next e => exact ⟨_, h, fun K' => by simp only [e]⟩
  · next e => exact ⟨_, h, fun K' => by simp only [e]⟩
  · cases h
theorem evEqL_fr {xs ys : List AVal} : ∀ (fs : List (Nat × Nat)) {K : Bool → Option X}, evEqL T xs ys fs K = some out → ∃ b, K b = some out ∧ ∀ K' : Bool → Option Y, evEqL T xs ys fs K' = K' b
  | [], K, h => ⟨_, h, fun K' => rfl⟩
  | (off, ft) :: fs, K, h => by
    unfold evEqL at h
    obtain ⟨h1, h⟩ := grd_some h
    obtain ⟨b, h, k⟩ := eqLeaf_fr (Y := Y) h
    obtain ⟨c, h, k2⟩ := evEqL_fr fs h
    exact ⟨_, h, fun K' => by unfold evEqL; rw [h1]; simp only [grd, cond_true]; rw [k, k2]⟩
theorem evEqS_fr {cmp : Nat → Bool} {op : BinOp} {t : Nat} {x y : AVal} {K : AVal → Option X} (h : evEqS T cmp op t x y K = some out) : ∃ z, K z = some out ∧ ∀ K' : AVal → Option Y, evEqS T cmp op t x y K' = K' z := by
  unfold evEqS at h
  obtain ⟨h0, h⟩ := grd_some h
  obtain ⟨x', h, _, k1⟩ := expand_fr (Y := Y) h
  obtain ⟨y', h, _, k2⟩ := expand_fr (Y := Y) h
  have key : ∀ (K' : AVal → Option Y), evEqS T cmp op t x y K' = (match (generalizing := false) T t with
    | some ⟨.struct fs, _, _, _⟩ => (match (generalizing := false) x' with
      | .agg xs => (match (generalizing := false) y' with
        | .agg ys => evEqL T xs ys fs fun b => (match (generalizing := false) op with
          | .eql => K' (.v (.bool b))
          | .neq => K' (.v (.bool (!b)))
          | _ => none)
        | _ => none)
      | _ => none)
    | _ => none) := fun K' => by
    unfold evEqS
    exact (grd_t h0).trans ((k1 _).trans (k2 _))
  cases hT : T t with
  | none => rw [hT] at h; cases h
  | some ti =>
    obtain ⟨td, sz, by_, z⟩ := ti
    rw [hT] at h
    simp only [hT] at key
    cases td with
    | struct fs =>
      cases x' with
      | agg xs =>
        cases y' with
        | agg ys =>
          obtain ⟨b, h, k3⟩ := evEqL_fr (Y := Y) (K := fun b => (match (generalizing := false) op with
            | .eql => K (.v (.bool b))
            | .neq => K (.v (.bool (!b)))
            | _ => none)) fs h
          cases op with
          | eql => exact ⟨_, h, fun K' => (key K').trans (k3 _)⟩
          | neq => exact ⟨_, h, fun K' => (key K').trans (k3 _)⟩
          | _ => cases h
        | _ => cases h
      | _ => cases h
    | _ => cases h
theorem eqArr_fr {n : Nat} {k : IntKind} {c d : CV} {K : Bool → Option X} (h : eqArr n k c d K = some out) : ∃ b, K b = some out ∧ ∀ K' : Bool → Option Y, eqArr n k c d K' = K' b := by
  unfold eqArr at h ⊢
  obtain ⟨h1, h⟩ := grd_some h
  obtain ⟨h2, h⟩ := grd_some h
  exact ⟨_, h, fun K' => (grd_t h1).trans (grd_t h2)⟩
theorem evEqF_fr {c d : CV} : ∀ (fs : List (Nat × Nat)) {K : Bool → Option X}, evEqF T c d fs K = some out → ∃ b, K b = some out ∧ ∀ K' : Bool → Option Y, evEqF T c d fs K' = K' b
  | [], K, h => ⟨_, h, fun K' => rfl⟩
  | (off, ft) :: fs, K, h => by
    unfold evEqF at h
    cases hk : arrK T ft with
    | some p =>
      obtain ⟨n, k⟩ := p
      simp only [hk] at h
      obtain ⟨h1, h⟩ := grd_some h
      obtain ⟨c1, g1, h⟩ := Option.bind_eq_some_iff.1 h
      obtain ⟨c2, g2, h⟩ := Option.bind_eq_some_iff.1 h
      obtain ⟨b, h, k1⟩ := eqArr_fr (Y := Y) h
      obtain ⟨q, h, k2⟩ := evEqF_fr fs h
      exact ⟨_, h, fun K' => by unfold evEqF; simp only [hk, grd_t h1, g1, g2, Option.bind_some]; rw [k1, k2]⟩
    | none =>
      simp only [hk] at h
      obtain ⟨h1, h⟩ := grd_some h
      obtain ⟨c1, g1, h⟩ := Option.bind_eq_some_iff.1 h
      obtain ⟨c2, g2, h⟩ := Option.bind_eq_some_iff.1 h
      obtain ⟨y1, h, k1⟩ := typed_fr (Y := Y) h
      obtain ⟨y2, h, k2⟩ := typed_fr (Y := Y) h
      obtain ⟨b, h, k3⟩ := eqLeaf_fr (Y := Y) h
      obtain ⟨q, h, k4⟩ := evEqF_fr fs h
      exact ⟨_, h, fun K' => by unfold evEqF; simp only [hk, grd_t h1, g1, g2, Option.bind_some]; rw [k1, k2, k3, k4]⟩
theorem finEq_fr {op : BinOp} {b : Bool} {K : AVal → Option X} (h : finEq op K b = some out) : ∃ z, K z = some out ∧ ∀ K' : AVal → Option Y, finEq op K' b = K' z := by
  unfold finEq at h ⊢
  split at h
  · exact ⟨_, h, fun K' => rfl⟩
  · exact ⟨_, h, fun K' => rfl⟩
  · cases h
theorem evEqA_fr {cmp : Nat → Bool} {op : BinOp} {t : Nat} {x y : AVal} {K : AVal → Option X} (h : evEqA T cmp op t x y K = some out) : ∃ z, K z = some out ∧ ∀ K' : AVal → Option Y, evEqA T cmp op t x y K' = K' z := by
  unfold evEqA at h ⊢
  split at h
  · obtain ⟨h1, h⟩ := grd_some h
    simp only [grd_t h1]
    split at h
    · obtain ⟨b, h, k1⟩ := evEqF_fr (Y := Y) _ h
      obtain ⟨z, h, k2⟩ := finEq_fr (Y := Y) h
      exact ⟨z, h, fun K' => (k1 _).trans (k2 K')⟩
    · cases hk : arrK T t with
      | none => rw [hk] at h; cases h
      | some p =>
        obtain ⟨n, k⟩ := p
        simp only [hk] at h
        obtain ⟨b, h, k1⟩ := eqArr_fr (Y := Y) h
        obtain ⟨z, h, k2⟩ := finEq_fr (Y := Y) h
        exact ⟨z, h, fun K' => (k1 _).trans (k2 K')⟩
  · cases h
theorem evBin2_fr {cmp : Nat → Bool} {op : BinOp} {t : Nat} {x y : AVal} {K : AVal → Option X} (h : evBin2 T cmp op t x y K = some out) : ∃ z, K z = some out ∧ ∀ K' : AVal → Option Y, evBin2 T cmp op t x y K' = K' z := by
  unfold evBin2 at h ⊢
  cases e : isAggT T t with
  | true =>
    rw [e] at h
    cases e2 : hasArr T t with
    | true => rw [e2] at h; exact evEqA_fr h
    | false => rw [e2] at h; exact evEqS_fr h
  | false => rw [e] at h; exact evBin_fr h
theorem flatLoad_fr {t : Nat} {xs : List CV} {i : Nat} {K : AVal → Option X} (h : flatLoad T t xs i K = some out) : ∃ z, K z = some out ∧ ∀ K' : AVal → Option Y, flatLoad T t xs i K' = K' z := by
  unfold flatLoad at h ⊢
  cases e : isAggT T t with
  | true =>
    rw [e] at h
    obtain ⟨h1, h⟩ := grd_some h
    exact ⟨_, h, fun K' => grd_t h1⟩
  | false =>
    rw [e] at h
    obtain ⟨c, h1, h⟩ := Option.bind_eq_some_iff.1 h
    exact ⟨_, h, fun K' => by simp only [cond_false, h1, Option.bind_some]⟩
theorem evLoad0_fr {ns : Nodes} {t : Nat} {x : AVal} {K : AVal → Option X} (h : evLoad0 T ns t x K = some out) :
    ∃ z, K z = some out ∧ ∀ ns', Same x.names ns ns' → ∀ K' : AVal → Option Y, evLoad0 T ns' t x K' = K' z := by
  unfold evLoad0 at h
  unfold evLoad0
  split at h
  · split at h
    · next cs hf =>
      obtain ⟨h1, h⟩ := grd_some h
      cases e : isAggT T t with
      | true =>
        rw [e] at h
        obtain ⟨h2, h⟩ := grd_some h
        refine ⟨_, h, fun ns' hs K' => ?_⟩
        simp only [hs _ List.mem_cons_self, hf, h1, grd, cond_true, h2]
      | false =>
        rw [e] at h
        obtain ⟨c, h2, h⟩ := Option.bind_eq_some_iff.1 h
        refine ⟨_, h, fun ns' hs K' => ?_⟩
        simp only [hs _ List.mem_cons_self, hf, h1, grd, cond_true, cond_false, h2, Option.bind_some]
    · next fz sh xs hf =>
      obtain ⟨h1, h⟩ := grd_some h
      cases sh with
      | none =>
        obtain ⟨z, h, k⟩ := flatLoad_fr (Y := Y) h
        refine ⟨_, h, fun ns' hs K' => ?_⟩
        simp only [hs _ List.mem_cons_self, hf, h1, grd, cond_true, k]
      | some n =>
        obtain ⟨c, h2, h⟩ := Option.bind_eq_some_iff.1 h
        obtain ⟨z, h, k⟩ := elemLoad_fr (Y := Y) h
        refine ⟨_, h, fun ns' hs K' => ?_⟩
        simp only [hs _ List.mem_cons_self, hf, h1, grd, cond_true, h2, Option.bind_some, k]
    · cases h
  · obtain ⟨h1, h⟩ := grd_some h
    obtain ⟨z, h, k⟩ := elemLoad_fr (Y := Y) h
    exact ⟨_, h, fun ns' hs K' => by simp only [h1, grd, cond_true, k]⟩
  · cases h
theorem evLoad_fr {ns : Nodes} {t : Nat} {x : AVal} {K : AVal → Option X} (h : evLoad T ns t x K = some out) :
    ∃ z, K z = some out ∧ ∀ ns', Same x.names ns ns' → ∀ K' : AVal → Option Y, evLoad T ns' t x K' = K' z := by
  obtain ⟨z, h1, k1⟩ := evLoad0_fr (Y := Y) h
  obtain ⟨y, h2, k2⟩ := typed_fr (Y := Y) h1
  exact ⟨y, h2, fun ns' hs K' => (k1 ns' hs _).trans (k2 K')⟩
theorem evIndex_fr {t : Nat} {x i : AVal} {K : AVal → Option X} (h : evIndex T t x i K = some out) : ∃ z, K z = some out ∧ ∀ K' : AVal → Option Y, evIndex T t x i K' = K' z := by
  unfold evIndex at h ⊢
  obtain ⟨i', h, k1⟩ := asI_fr (Y := Y) h
  split at h
  · next ht =>
    split at h
    · obtain ⟨h1, h⟩ := grd_some h
      obtain ⟨h2, h⟩ := grd_some h
      obtain ⟨h3, h⟩ := grd_some h
      obtain ⟨y, h4, h⟩ := Option.bind_eq_some_iff.1 h
      obtain ⟨z, h, k2⟩ := typed_fr (Y := Y) h
      exact ⟨_, h, fun K' => by rw [k1]; simp only [h1, h2, h3, h4, grd, cond_true, Option.bind_some, k2]⟩
    · cases h
  split at h
  · obtain ⟨h1, h⟩ := grd_some h
    obtain ⟨h2, h⟩ := grd_some h
    obtain ⟨y, h3, h⟩ := Option.bind_eq_some_iff.1 h
    exact ⟨_, h, fun K' => by rw [k1]; simp only [h1, h2, h3, grd, cond_true, Option.bind_some]⟩
  · cases h
theorem evField0_fr {t : Nat} {x : AVal} {f : Nat} {K : AVal → Option X} (h : evField0 T t x f K = some out) : ∃ z, K z = some out ∧ ∀ K' : AVal → Option Y, evField0 T t x f K' = K' z := by
  unfold evField0 at h ⊢
  split at h
  · next fs sz by_ z0 e =>
    obtain ⟨⟨off, ft⟩, h1, h⟩ := Option.bind_eq_some_iff.1 h
    simp only [h1, Option.bind_some] at h ⊢
    split at h
    · obtain ⟨h2, h⟩ := grd_some h
      simp only [h2, grd, cond_true]
      cases ea : isAggT T ft with
      | true =>
        rw [ea] at h
        obtain ⟨h3, h⟩ := grd_some h
        exact ⟨_, h, fun K' => by rw [h3]; rfl⟩
      | false =>
        rw [ea] at h
        obtain ⟨y, h3, h⟩ := Option.bind_eq_some_iff.1 h
        exact ⟨_, h, fun K' => by rw [h3]; rfl⟩
    · obtain ⟨h2, h⟩ := grd_some h
      simp only [h2, grd, cond_true]
      cases ea : isAggT T ft with
      | true =>
        rw [ea] at h
        obtain ⟨y, h3, h⟩ := Option.bind_eq_some_iff.1 h
        exact ⟨_, h, fun K' => by rw [h3]; rfl⟩
      | false =>
        rw [ea] at h
        obtain ⟨y, h3, h⟩ := Option.bind_eq_some_iff.1 h
        exact ⟨_, h, fun K' => by rw [h3]; rfl⟩
    · cases h
  · cases h
theorem evField_fr {t : Nat} {x : AVal} {f : Nat} {K : AVal → Option X} (h : evField T t x f K = some out) : ∃ z, K z = some out ∧ ∀ K' : AVal → Option Y, evField T t x f K' = K' z := by
  obtain ⟨z, h1, k1⟩ := evField0_fr (Y := Y) h
  obtain ⟨y, h2, k2⟩ := typed_fr (Y := Y) h1
  exact ⟨y, h2, fun K' => (k1 _).trans (k2 K')⟩
theorem evFieldAddr_fr {t : Nat} {x : AVal} {f : Nat} {K : AVal → Option X} (h : evFieldAddr T t x f K = some out) : ∃ z, K z = some out ∧ ∀ K' : AVal → Option Y, evFieldAddr T t x f K' = K' z := by
  unfold evFieldAddr at h ⊢
  split at h
  · next fs sz by_ z0 e =>
    obtain ⟨⟨off, ft⟩, h1, h⟩ := Option.bind_eq_some_iff.1 h
    simp only [h1, Option.bind_some] at h ⊢
    split at h
    · obtain ⟨h2, h⟩ := grd_some h
      exact ⟨_, h, fun K' => by simp only [h2, grd, cond_true]⟩
    · obtain ⟨h2, h⟩ := grd_some h
      exact ⟨_, h, fun K' => by simp only [h2, grd, cond_true]⟩
    · cases h
  · cases h
theorem evCap_fr {t : Nat} {x : AVal} {K : AVal → Option X} (h : evCap T t x K = some out) :
    ∃ z, K z = some out ∧ ∀ K' : AVal → Option Y, evCap T t x K' = K' z := by
  unfold evCap at h
  split at h
  · obtain ⟨h1, h⟩ := grd_some h
    refine ⟨_, h, fun K' => ?_⟩
    unfold evCap
    simp only [h1, grd, cond_true]
  · cases h
theorem evLen_fr {ns : Nodes} {t : Nat} {x : AVal} {K : AVal → Option X} (h : evLen T ns t x K = some out) :
    ∃ z, K z = some out ∧ ∀ ns', Same x.names ns ns' → ∀ K' : AVal → Option Y, evLen T ns' t x K' = K' z := by
  unfold evLen at h
  unfold evLen
  split at h
  all_goals first
    | (cases h; done)
    | (obtain ⟨h1, h⟩ := grd_some h
       refine ⟨_, h, fun ns' hs K' => ?_⟩
       try simp only
       first
         | rw [h1]; rfl
         | (rw [aliveN_eq (hs _ List.mem_cons_self), h1]; rfl))
theorem evMin_fr {x y : AVal} {K : AVal → Option X} (h : evMin x y K = some out) : ∃ z, K z = some out ∧ ∀ K' : AVal → Option Y, evMin x y K' = K' z := by
  unfold evMin at h ⊢
  split at h <;> (first | (cases h; done) | exact ⟨_, h, fun K' => rfl⟩ | exact ⟨_, (grd_some h).2, fun K' => by show grd _ (K' _) = K' _; rw [(grd_some h).1]; rfl⟩)
theorem evMax_fr {x y : AVal} {K : AVal → Option X} (h : evMax x y K = some out) : ∃ z, K z = some out ∧ ∀ K' : AVal → Option Y, evMax x y K' = K' z := by
  unfold evMax at h ⊢
  split at h <;> (first | (cases h; done) | exact ⟨_, h, fun K' => rfl⟩ | exact ⟨_, (grd_some h).2, fun K' => by show grd _ (K' _) = K' _; rw [(grd_some h).1]; rfl⟩)
end
end Go.Proofs.YtlaojkheenobaaaDoorS
