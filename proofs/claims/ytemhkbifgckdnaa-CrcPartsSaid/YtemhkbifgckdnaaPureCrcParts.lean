/- Proved: the sum of two parts, the one extended by the other, is that of both; sealed bytes are opened as they were; no condition (the statement's own guard: up to 2000 bytes each). -/
import Derived.Test.YtemhkbifgckdnaaCrcSeal
namespace Go.Proofs.Ytemhkbifgckdnaa.Pure
open Go.RowKit Go.Proofs.Ytemhkbifgckdnaa.PAll Go.Proofs.YtemhkbifgckdnaaW.PrintWords Go.Proofs.YtemhkbifgckdnaaW.PrintLast Go.Proofs.YtemhkbifgckdnaaW.PrintMore Go.Proofs.Ytemhkbifgckdnaa.Crc Go.Proofs.Ytemhkbifgckdnaa.Fn
theorem alive_f : Ev (fun k => outpostlaw02_alive.f k) true := Ev.of (fun k => outpostlaw02_alive.mono k) (k := 40) (by kernel_rfl)
theorem join_l1 (ls : List (List Int)) (hls : ls.length ≤ 1000) (i : Nat) (hi : i < ls.length) (res : List Int) (d : Nat) : ∀ (j : Nat) (acc : List Int), j + d = ls[i].length → acc.length + d ≤ 1000000 →
    Ev (fun k => outpostref01_Join.l0 k ls (acc ++ ls[i].drop j) ((i + 1 : Nat) : Int)) res → ls[i].length ≤ 1000000 →
    Ev (fun k => outpostref01_Join.l1 k ls acc (i : Int) (j : Int)) res := by
  have er : rd_L1 ls (i : Int) = ls[i] := by simp [rd_L1, List.getD_eq_getElem?_getD, List.getElem?_eq_getElem hi]
  induction d with
  | zero =>
    intro j acc hj ha he hl
    rw [List.drop_eq_nil_of_le (by omega), List.append_nil] at he
    refine Ev.step (fun k => ?_) he
    simp only [outpostref01_Join.l1, er]
    rw [if_pos (by omega), if_pos (by omega), if_neg (by omega), wsucc _ (by omega)]
  | succ d ih =>
    intro j acc hj ha he hl
    have hd := drop_cons (l := ls[i]) (j := j) (by omega)
    have hr := rd_getElem (l := ls[i]) (j := j) (by omega)
    refine Ev.step (fun k => ?_) (ih (j + 1) (acc ++ [ls[i][j]]) (by omega) (by simp; omega) (by rw [List.append_assoc, List.singleton_append, ← hd]; exact he) hl)
    simp only [outpostref01_Join.l1, er]
    rw [if_pos (by omega), if_pos (by omega), if_pos (by omega), if_pos (by omega), if_pos (by omega), hr, wsucc _ (by omega)]
theorem join_two (a b : List Int) (ha : a.length ≤ 10000) (hb : b.length ≤ 10000) : Ev (fun k => outpostref01_Join.f k [a, b]) (a ++ b) := by
  have h2 : Ev (fun k => outpostref01_Join.l0 k [a, b] ((([] : List Int) ++ a) ++ b) ((2 : Nat) : Int)) (a ++ b) := by
    refine Ev.step (f := fun _ => some (a ++ b)) (fun k => ?_) (Ev.now _)
    simp only [outpostref01_Join.l0]
    rw [if_neg (by simp)]
    simp
  have h1 : Ev (fun k => outpostref01_Join.l0 k [a, b] (([] : List Int) ++ a) ((1 : Nat) : Int)) (a ++ b) := by
    refine Ev.step (fun k => ?_) (join_l1 [a, b] (by simp) 1 (by simp) (a ++ b) b.length 0 (([] : List Int) ++ a) (by simp) (by simp; omega) (by simpa using h2) (by simp; omega))
    simp only [outpostref01_Join.l0]
    rw [if_pos (by simp)]
    rfl
  have h0 : Ev (fun k => outpostref01_Join.l0 k [a, b] ([] : List Int) ((0 : Nat) : Int)) (a ++ b) := by
    refine Ev.step (fun k => ?_) (join_l1 [a, b] (by simp) 0 (by simp) (a ++ b) a.length 0 ([] : List Int) (by simp) (by simp; omega) (by simpa using h1) (by simp; omega))
    simp only [outpostref01_Join.l0]
    rw [if_pos (by simp)]
    rfl
  exact h0
theorem sum_parts (a b : List Int) : sum (sum 0 a) b = sum 0 (a ++ b) := by
  unfold sum
  rw [show nat (a ++ b) = nat a ++ nat b by simp [nat], run_append, ← Nat.xor_assoc, Nat.xor_self, Nat.zero_xor]
theorem CrcParts : outpostlaw02_CrcParts.Pure := by
  intro a b hm1 hr1 hw1 hm2 hr2 hw2
  refine Ev.rounds ?_
  have ha := By.of_wf hw1
  have hb := By.of_wf hw2
  unfold outpostlaw02_CrcParts.f
  refine Ev.bind alive_f ?_
  simp only [if_true]
  by_cases h1 : (a.length : Int) > 2000
  · simp only [if_pos h1]
    refine Ev.step (f := fun _ => some true) (fun k => ?_) (Ev.now _)
    simp only [outpostlaw02_CrcParts.j0, if_true]
  · simp only [if_neg h1]
    by_cases h2 : (b.length : Int) > 2000
    · refine Ev.step (f := fun _ => some true) (fun k => ?_) (Ev.now _)
      simp [outpostlaw02_CrcParts.j0, h2]
    · have hd : decide ((b.length : Int) > 2000) = false := decide_eq_false h2
      have e1 := same_f a a (by omega)
      simp only [decide_true] at e1
      have o := open_f (sealed a) (sealed_by ha) (by rw [sealed_length]; omega)
      rw [opened_sealed ha] at o
      refine Ev.step (f := fun k => (outpostref01_Join.f k [a, b]).bind fun t270 => (crc_Seal.f k a).bind fun t273 => (crc_Open.f k t273).bind fun bt276 => (crc_Sum.f k a).bind fun t280 => (crc_Extend.f k t280 b).bind fun t281 => (crc_Sum.f k t270).bind fun t282 => if t281 = t282 then (crc_Extend.f k 0 b).bind fun t283 => (crc_Sum.f k b).bind fun t284 => if t283 = t284 then if bt276.2 = true then (outpostref01_Same.f k bt276.1 a).bind fun t285 => some t285 else some false else some false else some false) (fun k => ?_) ?_
      · simp only [outpostlaw02_CrcParts.j0, hd]
        rfl
      · refine Ev.bind (join_two a b (by omega) (by omega)) (Ev.bind (seal_f a ha (by omega)) (Ev.bind o (Ev.bind (sum_f a ha (by omega)) (Ev.bind (extend_f (sum 0 a) (sum_lt (by omega) ha) b hb (by omega)) (Ev.bind (sum_f (a ++ b) (ha.append hb) (by simp; omega)) ?_)))))
        rw [sum_parts]
        simp only [if_true]
        refine Ev.bind (extend_f 0 (by omega) b hb (by omega)) (Ev.bind (sum_f b hb (by omega)) ?_)
        simp only [if_true]
        exact Ev.bind e1 (Ev.now _)
end Go.Proofs.Ytemhkbifgckdnaa.Pure
