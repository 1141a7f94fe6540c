/-
  Plain laws: of a symmetric design the meets are one number, and the dual is such a design. No program in sight. No condition.
-/
import Derived.Test.YtkmcmahpfhlkhaaMeetsLaw
import Derived.Test.YtkmcmahpfhlkhaaDualOf
namespace Go.Proofs.Ytkmcmahpfhlkhaa
open Go.RowKit

theorem tg_meet (n : Nat) (xss : List (List Int)) (i j : Nat) : ((tg n xss i j : Nat) : Int) = meetN n xss i j := by
  unfold tg meetN
  rw [cnt_sum]
  exact sumL_congr fun y _ => ind_and _ _
theorem ryser_meets {n k l : Nat} {xss : List (List Int)} (h : Lev n xss 2 k l) (hk : 2 ≤ k) (hkn : k < n) (hb : xss.length = n) : meetsL n xss = [(l : Int)] := by
  obtain ⟨r, h2⟩ := h.two hk
  have key : ∀ i j, i < xss.length → j < xss.length → i ≠ j → tg n xss i j = l := fun i j hi hj hij => by
    have := ryser h2 hb hi hj hij
    rw [← tg_meet] at this; omega
  have hl : l ≤ n := by rw [← key 1 0 (by omega) (by omega) (by omega)]; exact tg_le _ _ _ _
  unfold meetsL
  refine (rise_pick (n := n + 1) (l := [(l : Int)]) (by simp) (fun x hx => by simp at hx; omega) fun z hz => ?_).symm
  rw [mto_iff]
  constructor
  · rintro ⟨i, j, h1, h3, h4⟩
    rw [key i j h3 (by omega) (by omega)] at h4
    simp [h4]
  · intro hz
    simp at hz
    exact ⟨1, 0, by omega, by omega, by rw [key 1 0 (by omega) (by omega) (by omega)]; omega⟩
theorem dual_rx {n : Nat} {xss : List (List Int)} {x : Nat} (hx : x < n) : rx (dualL n xss) x = pickL (inB xss x) xss.length := rowsTo_rx _ hx
theorem dual_pt {n : Nat} {xss : List (List Int)} {x i : Nat} (hx : x < n) (hi : i < xss.length) : ptB (dualL n xss) x i = ptB xss i x := by
  unfold ptB
  rw [dual_rx hx, pickL_mem hi]; rfl
theorem dualL_len (n : Nat) (xss : List (List Int)) : (dualL n xss).length = n := rowsTo_len _ _
/-- The dual of a symmetric design. -/
theorem dual_lev {n k l : Nat} {xss : List (List Int)} (h : Lev n xss 2 k l) (hk : 2 ≤ k) (hkn : k < n) (hb : xss.length = n) : Lev n (dualL n xss) 2 k l := by
  obtain ⟨r, h2⟩ := h.two hk
  have hrk : (r : Int) = k := by
    have e := h2.bk
    rw [hb, Int.mul_comm] at e
    exact (Int.eq_of_mul_eq_mul_right (by omega) e).symm
  have hhi := h.des.hi
  refine ⟨⟨h.des.lo, hhi, by rw [dualL_len]; omega, fun i hi => ?_⟩, h.t4, h.tn, by rw [dualL_len]; omega, fun i hi => ?_, fun P g1 g2 g3 => ?_⟩
  · rw [dualL_len] at hi
    rw [dual_rx hi, hb]; exact pickL_block _
  · rw [dualL_len] at hi
    rw [dual_rx hi, pickL_cnt]
    have e1 := h2.one i hi
    have e2 : cnt (inB xss i) xss.length = lamP xss [i] := cnt_congr fun j _ => by show mem (rx xss j) (i : Int) = (mem (rx xss j) (i : Int) && true); rw [Bool.and_true]
    rw [e2, e1]; omega
  · match P, g3 with
    | [i, j], _ =>
      have hi := g2 i (by simp)
      have hj := g2 j (by simp)
      have hij : i ≠ j := by simp at g1; exact g1
      have := ryser h2 hb (show i < xss.length by omega) (show j < xss.length by omega) hij
      rw [← tg_meet] at this
      have e : lamP (dualL n xss) [i, j] = tg n xss i j := by
        unfold lamP tg
        rw [dualL_len]
        refine cnt_congr fun x hx => ?_
        show (ptB (dualL n xss) x i && (ptB (dualL n xss) x j && true)) = _
        rw [Bool.and_true, dual_pt hx (by omega), dual_pt hx (by omega)]
      rw [e]; omega
end Go.Proofs.Ytkmcmahpfhlkhaa
