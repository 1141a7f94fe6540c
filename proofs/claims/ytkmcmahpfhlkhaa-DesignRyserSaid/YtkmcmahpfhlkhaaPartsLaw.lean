/-
  Plain laws: what is derived from, what is residual of a design of level two. No program in sight. No condition.
-/
import Derived.Test.YtkmcmahpfhlkhaaRyser
import Derived.Test.YtkmcmahpfhlkhaaDerOf
import Derived.Test.YtkmcmahpfhlkhaaResOf
import Derived.Test.YtkmcmahpfhlkhaaCompLaw
namespace Go.Proofs.Ytkmcmahpfhlkhaa
open Go.RowKit

/-- How many rows have a property. -/
def cntR (Q : List Int → Bool) (L : List (List Int)) : Nat := cnt (fun i => Q (rx L i)) L.length
theorem cntR_snoc (Q : List Int → Bool) (L : List (List Int)) (b : List Int) : cntR Q (L ++ [b]) = cntR Q L + if Q b then 1 else 0 := by
  unfold cntR
  have e : rx (L ++ [b]) L.length = b := by rw [rx_snoc, if_neg (Nat.lt_irrefl _), if_pos rfl]
  rw [List.length_append, List.length_singleton, cnt, e]
  congr 1
  exact cnt_congr fun i hi => by rw [rx_snoc, if_pos hi]
theorem filt_cnt (Q : List Int → Bool) (c : Nat → Bool) (F : Nat → List Int) : ∀ k, cntR Q (filtTo c F k) = cnt (fun i => c i && Q (F i)) k
  | 0 => rfl
  | k + 1 => by
    rw [cnt]
    cases e : c k
    · rw [filtTo_no e, filt_cnt Q c F k]; simp
    · rw [filtTo_yes e, cntR_snoc, filt_cnt Q c F k]; simp
theorem lamP_cntR (yss : List (List Int)) (P : List Nat) : lamP yss P = cntR (fun b => P.all fun x => mem b (x : Int)) yss := rfl
theorem cntR_true (L : List (List Int)) : cntR (fun _ => true) L = L.length := by
  unfold cntR
  have : ∀ m, cnt (fun _ => true) m = m := by
    intro m
    induction m with
    | zero => rfl
    | succ m ih => rw [cnt, ih]; rfl
  exact this _
theorem filt_rx {c : Nat → Bool} {F : Nat → List Int} {K j : Nat} (hj : j < (filtTo c F K).length) : ∃ i, i < K ∧ c i = true ∧ rx (filtTo c F K) j = F i := filtTo_mem (rx_mem hj)
/-- Leaving one place out. -/
def sk (p x : Nat) : Nat := if x < p then x else x + 1
theorem sum_skip (f : Nat → Int) (p : Nat) : ∀ m, p ≤ m → sumL (List.range m) (fun x => f (sk p x)) = sumL (List.range (m + 1)) f - f p
  | 0, h => by
    obtain rfl : p = 0 := by omega
    rw [range_succ_sum]; simp [sumL]
  | m + 1, h => by
    by_cases e : p = m + 1
    · subst e
      rw [range_succ_sum f (m + 1)]
      have : sumL (List.range (m + 1)) (fun x => f (sk (m + 1) x)) = sumL (List.range (m + 1)) f := sumL_congr fun x hx => by
        rw [List.mem_range] at hx; unfold sk; rw [if_pos hx]
      omega
    · rw [range_succ_sum _ m, sum_skip f p m (by omega), range_succ_sum f (m + 1)]
      have : sk p m = m + 1 := by unfold sk; rw [if_neg (by omega)]
      rw [this]; omega
theorem pickL_mem {p : Nat → Bool} {n x : Nat} (hx : x < n) : mem (pickL p n) (x : Int) = p x := by
  rw [Bool.eq_iff_iff, mem_iff, mem_pickL]
  constructor
  · rintro ⟨j, h1, h2, h3⟩; obtain rfl : x = j := by omega
    exact h2
  · intro h; exact ⟨x, hx, h, rfl⟩
/-- DERIVED. -/
theorem derL_lev {m p k l : Nat} {xss : List (List Int)} (h : Lev (m + 1) xss 2 k l) (hk : 2 ≤ k) (hkn : k < m + 1) (hp : p < m + 1) : Lev m (derL m p xss) 1 (k - 1) l := by
  obtain ⟨r, h2⟩ := h.two hk
  have hl := h.des.few
  have hhi := h.des.hi
  have hhi' : ((m : Int) + 1) ≤ 40 := by have : ((m + 1 : Nat) : Int) ≤ 40 := hhi
                                         omega
  have hlen : (derL m p xss).length = r := by
    rw [← cntR_true, derL, filt_cnt, ← h2.one p hp]
    exact cnt_congr fun i _ => by rw [Bool.and_true]; show mem (rx xss i) (p : Int) = (mem (rx xss i) (p : Int) && true); rw [Bool.and_true]
  have hr : 0 < r := by
    have e := h2.rk
    have hm : ((m + 1 : Nat) : Int) - 1 = (m : Int) := by omega
    rw [hm] at e
    have h3 : 0 < (l : Int) * (m : Int) := Int.mul_pos (by have := h2.lpos; omega) (by omega)
    refine Classical.byContradiction fun hno => ?_
    obtain rfl : r = 0 := by omega
    rw [← e] at h3; simp at h3
  refine ⟨⟨by omega, by omega, ?_, fun i hi => ?_⟩, by omega, by omega, by omega, fun i hi => ?_, fun P g1 g2 g3 => ?_⟩
  · have := filtTo_len (hasP xss p) (fun i => pickL (shB (rx xss i) p) m) xss.length
    show (filtTo _ _ _).length ≤ 200
    omega
  · obtain ⟨j, _, _, e⟩ := filt_rx (show i < (filtTo (hasP xss p) (fun i => pickL (shB (rx xss i) p) m) xss.length).length from hi)
    show IsBlock m (rx (filtTo _ _ _) i)
    rw [e]; exact pickL_block _
  · obtain ⟨j, hj, hc, e⟩ := filt_rx (show i < (filtTo (hasP xss p) (fun i => pickL (shB (rx xss i) p) m) xss.length).length from hi)
    show (rx (filtTo _ _ _) i).length = k - 1
    rw [e, pickL_cnt]
    have e1 := sum_skip (fun y => ind (ptB xss j y)) p m (by omega)
    rw [pt_sum h.des h.uni hj] at e1
    have e2 : ((cnt (shB (rx xss j) p) m : Nat) : Int) = sumL (List.range m) (fun x => ind (ptB xss j (sk p x))) := cnt_sum _ _
    have e3 : ptB xss j p = true := hc
    rw [e3, ind_true] at e1
    omega
  · match P, g3 with
    | [x], _ =>
      have hx : x < m := g2 x (by simp)
      have hs : sk p x < m + 1 ∧ sk p x ≠ p := by unfold sk; split <;> omega
      rw [lamP_cntR]
      show cntR _ (filtTo _ _ _) = l
      rw [filt_cnt, ← h.lev [p, sk p x] (by simp; omega) (fun y hy => by simp at hy; omega) rfl]
      refine cnt_congr fun i hi => ?_
      show (hasP xss p i && (mem (pickL (shB (rx xss i) p) m) (x : Int) && true)) = (ptB xss i p && (ptB xss i (sk p x) && true))
      rw [pickL_mem hx]; rfl
/-- The sum over the numbers that are picked. -/
theorem sum_pick (p : Nat → Bool) (g : Int → Int) : ∀ n, sumL (pickL p n) g = sumL (List.range n) (fun y => ind (p y) * g (y : Int))
  | 0 => rfl
  | n + 1 => by
    rw [range_succ_sum]
    cases e : p n
    · rw [pickL_no e, sum_pick p g n, ind_false]; omega
    · rw [pickL_yes e, sumL_append, sum_pick p g n, ind_true]; simp [sumL]
theorem sum_ix (g : Int → Int) : ∀ l : List Int, sumL (List.range l.length) (fun x => g (ix l x)) = sumL l g
  | [] => rfl
  | a :: l => by
    rw [List.length_cons, List.range_succ_eq_map]
    show g (ix (a :: l) 0) + sumL ((List.range l.length).map Nat.succ) _ = g a + sumL l g
    rw [sumL_map, ← sum_ix g l]
    rfl
/-- RESIDUAL of a symmetric design. -/
theorem resL_lev {n q k l : Nat} {xss : List (List Int)} (h : Lev n xss 2 k l) (hk : 2 ≤ k) (hb : xss.length = n) (hnk : 2 ≤ n - k) (hq : q < xss.length) :
    (leftOf n (rx xss q)).length = n - k ∧ Lev (n - k) (resL n q xss) 2 (k - l) l ∧ l ≤ k := by
  obtain ⟨r, h2⟩ := h.two hk
  have hl := h.des.few
  have hhi := h.des.hi
  have hleft : (leftOf n (rx xss q)).length = n - k := by
    have e1 := pt_sum h.des h.uni hq
    have e2 : ((cnt (offB (rx xss q)) n : Nat) : Int) = (n : Int) - k := by
      rw [cnt_sum, ← e1]
      have : (n : Int) = sumL (List.range n) (fun _ => 1) := by rw [sumL_const, List.length_range]; omega
      rw [this, ← sumL_sub]
      exact sumL_congr fun y _ => ind_not _
    unfold leftOf
    rw [pickL_cnt]; omega
  have hmem : ∀ x, x < n - k → ∃ y : Nat, y < n ∧ ix (leftOf n (rx xss q)) x = (y : Int) ∧ ptB xss q y = false := by
    intro x hx
    have hm := ix_mem (show x < (leftOf n (rx xss q)).length by omega)
    obtain ⟨j, h1, h2, h3⟩ := mem_pickL.1 (show ix (leftOf n (rx xss q)) x ∈ pickL (offB (rx xss q)) n from hm)
    exact ⟨j, h1, h3, by unfold offB at h2; unfold ptB; simpa using h2⟩
  have hinj : ∀ x x', x < n - k → x' < n - k → x ≠ x' → ix (leftOf n (rx xss q)) x ≠ ix (leftOf n (rx xss q)) x' := by
    intro x x' hx hx' hne
    have hbl : IsBlock n (leftOf n (rx xss q)) := pickL_block _
    rcases Nat.lt_or_gt_of_ne hne with hlt | hlt
    · have := inc_lt hbl.inc hlt (by omega); omega
    · have := inc_lt hbl.inc hlt (by omega); omega
  have hlen : (resL n q xss).length + 1 = xss.length := by
    have e1 : (resL n q xss).length = cnt (notK q) xss.length := by
      rw [← cntR_true, resL, filt_cnt]
      exact cnt_congr fun i _ => Bool.and_true _
    have e2 : ((cnt (notK q) xss.length : Nat) : Int) = (xss.length : Int) - 1 := by
      rw [cnt_sum]
      have e3 : ∀ i, i ∈ List.range xss.length → ind (notK q i) = 1 - ind (i == q) * 1 := fun i _ => by unfold notK; rw [ind_not]; omega
      rw [sumL_congr e3, sumL_sub, sum_one (fun _ => 1) hq, sumL_const, List.length_range]; omega
    omega
  have hsize : ∀ i, i < xss.length → i ≠ q → ((cnt (resB (leftOf n (rx xss q)) (rx xss i)) (leftOf n (rx xss q)).length : Nat) : Int) = (k : Int) - l := by
    intro i hi hiq
    rw [cnt_sum]
    have e1 : sumL (List.range (leftOf n (rx xss q)).length) (fun x => ind (resB (leftOf n (rx xss q)) (rx xss i) x)) = sumL (leftOf n (rx xss q)) (fun z => ind (mem (rx xss i) z)) := sum_ix (fun z => ind (mem (rx xss i) z)) _
    rw [e1]
    unfold leftOf
    rw [sum_pick]
    have e2 : ∀ y, y ∈ List.range n → ind (offB (rx xss q) y) * ind (mem (rx xss i) (y : Int)) = ind (ptB xss i y) - ind (ptB xss i y) * ind (ptB xss q y) := by
      intro y _
      have : ind (offB (rx xss q) y) = 1 - ind (ptB xss q y) := ind_not _
      rw [this]
      show (1 - ind (ptB xss q y)) * ind (ptB xss i y) = _
      rw [Int.sub_mul, Int.one_mul, Int.mul_comm (ind (ptB xss q y))]
    rw [sumL_congr e2, sumL_sub, pt_sum h.des h.uni hi]
    have := ryser h2 hb hi hq hiq
    unfold meetN at this
    rw [this]
  have hlk : l ≤ k := by
    obtain ⟨i, hi, hiq⟩ : ∃ i, i < xss.length ∧ i ≠ q := by
      by_cases e : q = 0
      · exact ⟨1, by omega, by omega⟩
      · exact ⟨0, by omega, by omega⟩
    have := hsize i hi hiq
    omega
  refine ⟨hleft, ⟨⟨by omega, by omega, by omega, fun i hi => ?_⟩, by omega, by omega, by omega, fun i hi => ?_, fun P g1 g2 g3 => ?_⟩, hlk⟩
  · obtain ⟨j, _, _, e⟩ := filt_rx (show i < (filtTo (notK q) (fun i => pickL (resB (leftOf n (rx xss q)) (rx xss i)) (leftOf n (rx xss q)).length) xss.length).length from hi)
    show IsBlock ((n - k : Nat) : Int) (rx (filtTo _ _ _) i)
    rw [e, hleft]; exact pickL_block _
  · obtain ⟨j, hj, hc, e⟩ := filt_rx (show i < (filtTo (notK q) (fun i => pickL (resB (leftOf n (rx xss q)) (rx xss i)) (leftOf n (rx xss q)).length) xss.length).length from hi)
    show (rx (filtTo _ _ _) i).length = k - l
    rw [e, pickL_cnt]
    have := hsize j hj (fun ej => by unfold notK at hc; simp [ej] at hc)
    omega
  · match P, g3 with
    | [x, x'], _ =>
      have hx := g2 x (by simp)
      have hx' := g2 x' (by simp)
      have hxx : x ≠ x' := by simp at g1; exact g1
      obtain ⟨y, hy, ey, oy⟩ := hmem x hx
      obtain ⟨y', hy', ey', oy'⟩ := hmem x' hx'
      have hne := hinj x x' hx hx' hxx
      rw [ey, ey'] at hne
      rw [lamP_cntR]
      show cntR _ (filtTo _ _ _) = l
      rw [filt_cnt, ← h.lev [y, y'] (by simp; omega) (fun z hz => by simp at hz; omega) rfl]
      refine cnt_congr fun i hi => ?_
      show (notK q i && (mem (pickL (resB (leftOf n (rx xss q)) (rx xss i)) (leftOf n (rx xss q)).length) (x : Int) && (mem (pickL (resB (leftOf n (rx xss q)) (rx xss i)) (leftOf n (rx xss q)).length) (x' : Int) && true))) = (ptB xss i y && (ptB xss i y' && true))
      rw [pickL_mem (by omega), pickL_mem (by omega)]
      have r1 : resB (leftOf n (rx xss q)) (rx xss i) x = ptB xss i y := by unfold resB ptB; rw [ey]
      have r2 : resB (leftOf n (rx xss q)) (rx xss i) x' = ptB xss i y' := by unfold resB ptB; rw [ey']
      rw [r1, r2]
      by_cases e : i = q
      · subst e; rw [oy]; simp
      · have : notK q i = true := by unfold notK; simp [e]
        rw [this]; rfl
end Go.Proofs.Ytkmcmahpfhlkhaa
