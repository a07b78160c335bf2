/- ShaHex. -/
import Derived.Test.YtlaojkheenobaaaDoorPn
namespace Go.Proofs.YtlaojkheenobaaaDoorD
open Go Go.Proofs.YtlaojkheenobaaaDoorS Go.Proofs
set_option linter.unusedVariables false
set_option linter.unusedSimpArgs false
section
variable {X : Type}
/-- A digit's letter. -/
def nb (n : Int) : Int := if n < 10 then 48 + n else 87 + n
theorem nb_byt {n : Int} (h : 0 ≤ n ∧ n < 16) : 0 ≤ nb n ∧ nb n < 256 := by unfold nb; split <;> omega
def hexI : List Int → List Int
  | [] => []
  | x :: l => nb (x / 16) :: nb (x % 16) :: hexI l
theorem hexI_app : ∀ a b : List Int, hexI (a ++ b) = hexI a ++ hexI b
  | [], b => rfl
  | x :: a, b => by simp [hexI, hexI_app a b]
theorem hexI_length : ∀ a : List Int, (hexI a).length = 2 * a.length
  | [] => rfl
  | x :: a => by simp [hexI, hexI_length a]; omega
theorem dig_nb {n : Int} (h : 0 ≤ n ∧ n < 16) : Go.Proofs.YtlaojkheenobaaaDoor.dig n = UInt8.ofNat (nb n).toNat := by
  obtain ⟨m, rfl⟩ := Int.eq_ofNat_of_zero_le h.1
  have hm : m < 16 := by omega
  rcases m with _ | _ | _ | _ | _ | _ | _ | _ | _ | _ | _ | _ | _ | _ | _ | _ | m <;> first | rfl | omega
theorem hexL_I : ∀ d : List Int, Byt d → Go.Proofs.YtlaojkheenobaaaDoor.hexL d = (hexI d).map fun n => UInt8.ofNat n.toNat
  | [], _ => rfl
  | x :: d, h => by
    have hx := h x List.mem_cons_self
    have ih := hexL_I d fun b hb => h b (List.mem_cons_of_mem _ hb)
    unfold Go.Proofs.YtlaojkheenobaaaDoor.hexL hexI
    rw [List.map_cons, List.map_cons, ih, dig_nb (by omega), dig_nb (by omega)]
theorem hexT_bytes {d : List Int} (h : Byt d) : Go.Proofs.YtlaojkheenobaaaDoor.hexT (by8 d) = bytesOf (by8 (hexI d)) := by
  unfold Go.Proofs.YtlaojkheenobaaaDoor.hexT bytesOf
  rw [ints_by8, hexL_I d h]
  congr 2
  unfold by8
  rw [List.map_map]
  rfl
theorem rhex_nib {k : Nat} {K : ByteArray → Option X} (rec1) (D : List CV) (i : Nat) (hi : i < 32) {h l : Int} (hh : 0 ≤ h ∧ h < 16) (hl : 0 ≤ l ∧ l < 16) (pre : List Int) (hp : pre.length ≤ 64) (hk : 2 < k) :
    iterV (f21_L2 k K rec1) k (pre.length, (i : Int), 0, D, by8 pre, [CV.int .u8 h, CV.int .u8 l]) = rec1 (pre.length + 2, ((i + 1 : Nat) : Int), D, by8 (pre ++ [nb h, nb l])) := by
  have e0 : (pre.length, (i : Int), (0 : Int), D, by8 pre, [CV.int .u8 h, CV.int .u8 l]) = (pre.length + 0, (i : Int), ((0 : Nat) : Int), D, by8 (pre ++ [nb h, nb l].take 0), [CV.int .u8 h, CV.int .u8 l]) := by simp
  rw [e0]
  refine iterV_spec (fun j => (pre.length + j, (i : Int), (j : Int), D, by8 (pre ++ [nb h, nb l].take j), [CV.int .u8 h, CV.int .u8 l])) (fun _ => rec1 (pre.length + 2, ((i + 1 : Nat) : Int), D, by8 (pre ++ [nb h, nb l]))) 2 (fun j rec hj hr => ?_) (fun rec => ?_) k 0 (by omega) (by omega)
  · refine Eq.trans ?_ hr
    unfold f21_L2 f21_T2 f21_J1
    obtain ⟨v, hv1, hv2, hv3⟩ : ∃ v, [CV.int .u8 h, CV.int .u8 l][(0 + j) + 0]? = some (CV.int .u8 v) ∧ (0 ≤ v ∧ v < 16) ∧ [nb h, nb l].take (j + 1) = [nb h, nb l].take j ++ [nb v] := by
      have : j = 0 ∨ j = 1 := by omega
      rcases this with rfl | rfl
      · exact ⟨h, rfl, hh, rfl⟩
      · exact ⟨l, rfl, hl, rfl⟩
    have hpl : (pre ++ [nb h, nb l].take j).length = pre.length + j := by
      rw [List.length_append, List.length_take]; simp; omega
    have e4 : List.take (pre.length + j) (by8 (pre ++ [nb h, nb l].take j)) = by8 (pre ++ [nb h, nb l].take j) := take_all _ _ (by rw [by8_length, hpl]; omega)
    have e6 : pre ++ [nb h, nb l].take (j + 1) = (pre ++ [nb h, nb l].take j) ++ [nb v] := by rw [hv3, List.append_assoc]
    refine (bifT (decide_eq_true (by omega : (j : Int) < 2))).trans ?_
    refine (grdT (decide_eq_true (by omega : (0 : Int) ≤ (j : Int)))).trans ?_
    refine (grdT (decide_eq_true (by omega : (j : Int) < 2))).trans ?_
    refine (bAt hv1 _).trans ?_
    refine (grdT (isI_int _ _)).trans ?_
    simp only [toI_int]
    by_cases hq : v < 10
    · have ew : IntKind.wrap .u8 (48 + v) = nb v := by unfold nb; rw [if_pos hq, wrapU8]; omega
      refine (bifT (decide_eq_true hq)).trans ?_
      simp only [ew]
      refine (grdT (decide_eq_true (by simp; omega))).trans ?_
      have e5 : List.take 1 (List.drop 0 [CV.int IntKind.u8 (nb v)]) = by8 [nb v] := rfl
      simp only [e4, e5]
      rw [← by8_append, e6, wrap64_s (by omega)]
      rfl
    · have ew : IntKind.wrap .u8 (IntKind.wrap .u8 (97 + v) - 10) = nb v := by unfold nb; rw [if_neg hq, wrapU8, wrapU8]; omega
      refine (bifF (decide_eq_false hq)).trans ?_
      simp only [ew]
      refine (grdT (decide_eq_true (by simp; omega))).trans ?_
      have e5 : List.take 1 (List.drop 0 [CV.int IntKind.u8 (nb v)]) = by8 [nb v] := rfl
      simp only [e4, e5]
      rw [← by8_append, e6, wrap64_s (by omega)]
      rfl
  · unfold f21_L2 f21_T2
    refine (bifF rfl).trans ?_
    simp only
    rw [wrap64_s (by omega)]
    rfl
theorem rhex_eq {k : Nat} (hk : 70 < k) (K : ByteArray → Option X) {d : List Int} (hl : d.length = 32) (hd : Byt d) : f21 k K (by8 d) = K (bytesOf (by8 (hexI d))) := by
  unfold f21 f21_A f21_T
  refine (grdT (by rw [by8_length, hl]; rfl)).trans ?_
  refine iterV_spec (fun i => ((hexI (d.take i)).length, (i : Int), by8 d, by8 (hexI (d.take i)))) (fun _ => K (bytesOf (by8 (hexI d)))) 32 (fun i rec hi hr => ?_) (fun rec => ?_) k 0 (by omega) (by omega)
  · refine Eq.trans ?_ hr
    have hx := getD_byt hd i
    have hil : (hexI (d.take i)).length = 2 * i := by rw [hexI_length, List.length_take]; omega
    have hf := rhex_nib (k := k) (K := K) rec (by8 d) i hi (h := d.getD i 0 / 16) (l := d.getD i 0 % 16) (by omega) (by omega) (hexI (d.take i)) (by omega) (by omega)
    have e6 : d.take (i + 1) = d.take i ++ [d.getD i 0] := by
      rw [List.take_add_one, List.getD_eq_getElem?_getD, List.getElem?_eq_getElem (by omega)]; rfl
    have e7 : hexI (d.take (i + 1)) = hexI (d.take i) ++ [nb (d.getD i 0 / 16), nb (d.getD i 0 % 16)] := by rw [e6, hexI_app]; rfl
    have e8 : (hexI (d.take (i + 1))).length = (hexI (d.take i)).length + 2 := by rw [e7, List.length_append]; rfl
    rw [e8, e7]
    unfold f21_L1
    generalize iterV (f21_L2 k K rec) k = L2 at hf ⊢
    unfold f21_T1
    have es : 0 + (0 + i * 1) = i := by omega
    refine (bifT (decide_eq_true (by omega : (i : Int) < 32))).trans ?_
    simp only [toNat_cast, es]
    refine (grdT (decide_eq_true (by omega))).trans ?_
    refine (grdT (decide_eq_true (by omega))).trans ?_
    refine (bAt (by8_at (by omega)) _).trans ?_
    refine (grdT (isI_int _ _)).trans ?_
    refine (grdT (decide_eq_true (by omega))).trans ?_
    refine (grdT (decide_eq_true (by omega))).trans ?_
    refine (bAt (by8_at (by omega)) _).trans ?_
    refine (grdT (isI_int _ _)).trans ?_
    have q1 : IntKind.wrap .u8 (Int.tdiv (d.getD i 0) 16) = d.getD i 0 / 16 := by rw [tdiv_eq hx.1, wrapU8]; omega
    have q2 : Int.tmod (d.getD i 0) 16 = d.getD i 0 % 16 := tmod_eq hx.1 _
    simp only [toI_int, q1, q2]
    exact hf
  · unfold f21_L1
    generalize iterV (f21_L2 k K rec) k = L2
    unfold f21_T1
    have e1 : d.take 32 = d := take_all _ _ (by omega)
    rw [e1]
    refine (bifF rfl).trans ?_
    have et : List.take (hexI d).length (List.drop 0 (by8 (hexI d))) = by8 (hexI d) := by rw [List.drop_zero, take_all _ _ (by rw [by8_length]; omega)]
    simp only [et]
    refine grdT ?_
    rw [Bool.and_eq_true, List.all_eq_true]
    exact ⟨rfl, fun c hc => by
      obtain ⟨n, _, rfl⟩ := List.mem_map.1 hc
      exact isI_int _ _⟩
theorem hex_law_eq {k : Nat} (K : Bool → Option X) (hk : 200 < k) (hk2 : k < 1073741824) {d : List Int} (hl : d.length = 32) (hd : Byt d) (s : ByteArray) : f4 k K (by8 d) s = K true := by
  unfold f4 f4_A f4_T
  have a32 : (by8 d).length = 32 := by rw [by8_length]; exact hl
  have p32 : (by8 (parseR s).1).length = 32 := by rw [by8_length]; exact parseR_len s
  refine (grdT (by rw [a32]; rfl)).trans ?_
  refine (alive_eq _ (by omega) hk2).trans ?_
  refine (bifF rfl).trans ?_
  refine (parse_eq (by omega) _ s).trans ?_
  refine (grdT (by rw [p32]; rfl)).trans ?_
  refine (grdT rfl).trans ?_
  refine (rparse_eq (by omega) _ s).trans ?_
  refine (grdT (by rw [p32]; rfl)).trans ?_
  refine (grdT rfl).trans ?_
  simp only [take_32 a32]
  refine (grdT (decide_eq_true (by omega))).trans ?_
  refine (hex_eq _ hl hd).trans ?_
  refine (grdT (decide_eq_true (by omega))).trans ?_
  refine (rhex_eq (by omega) _ hl hd).trans ?_
  rw [hexT_bytes hd]
  refine (bifT (by simp)).trans ?_
  have hn := nums_by8 (parseR_len s)
  generalize (parseR s).1 = P at p32 hn ⊢
  simp only [put_all p32 rep_length, take_32 p32, hn, Bool.and_self]
  refine (grdT (decide_eq_true (by omega))).trans ?_
  refine (grdT (decide_eq_true (by omega))).trans ?_
  refine (grdT rfl).trans ?_
  refine (bifT (by simp)).trans ?_
  simp
theorem law_hex (x0 : List Int) (w0 : x0.length = 32 ∧ ∀ y ∈ x0, (Lit.int .u8 y).wf = true) (x1 : ByteArray) (w1 : x1.size ≤ maxLen) : ∃ k, ∀ K : Bool → Option Out, f4 k K (x0.map fun y => CV.int .u8 y) x1 = K true :=
  ⟨100000, fun K => hex_law_eq K (by omega) (by omega) w0.1 (wfByt w0.2) x1⟩
end
end Go.Proofs.YtlaojkheenobaaaDoorD
