/-
  Plain law: what is counted over all ranks, or number by number, is the same. No program in sight. No condition.
-/
import Derived.Test.YtkmfhnjadpdkeaaDoorPerm
namespace Go.Proofs.YtkmfhnjadpdkeaaDoor
open Go.RowKit

def sumR (f : Nat → Nat) : Nat → Nat
  | 0 => 0
  | k + 1 => sumR f k + f k
theorem sumR_congr {f g : Nat → Nat} : ∀ k, (∀ i, i < k → f i = g i) → sumR f k = sumR g k
  | 0, _ => rfl
  | k + 1, h => by rw [sumR, sumR, sumR_congr k (fun i hi => h i (by omega)), h k (by omega)]
theorem sumR_zero {f : Nat → Nat} : ∀ k, (∀ i, i < k → f i = 0) → sumR f k = 0
  | 0, _ => rfl
  | k + 1, h => by rw [sumR, sumR_zero k (fun i hi => h i (by omega)), h k (by omega)]
theorem sumR_le {f : Nat → Nat} {M : Nat} : ∀ k, (∀ i, i < k → f i ≤ M) → sumR f k ≤ k * M
  | 0, _ => by simp [sumR]
  | k + 1, h => by
    have := sumR_le k (fun i hi => h i (by omega))
    have := h k (by omega)
    rw [sumR, Nat.add_mul]; omega
theorem sumR_split (f : Nat → Nat) (m : Nat) : ∀ q, sumR f (q * m) = sumR (fun i => sumR (fun j => f (i * m + j)) m) q
  | 0 => by simp [sumR]
  | q + 1 => by
    rw [sumR, ← sumR_split f m q, Nat.succ_mul]
    have : ∀ j, sumR f (q * m + j) = sumR f (q * m) + sumR (fun j => f (q * m + j)) j := by
      intro j
      induction j with
      | zero => simp [sumR]
      | succ j ih => rw [← Nat.add_assoc, sumR, sumR, ih]; omega
    exact this m
theorem pickU_here {out : List Int} {x : Nat} (hx : mem out (x : Int) = false) : ∀ {n : Nat}, x < n → pickU out (cntU out x) n = x
  | 0, h => by omega
  | n + 1, h => by
    rw [pickU]
    by_cases e : x = n
    · subst e; rw [if_pos ⟨hx, rfl⟩]
    · rw [if_neg]
      · exact pickU_here hx (by omega)
      · intro h2
        have := cntU_lt out (show x < n by omega) hx
        omega
/-- The numbers that are not taken, one by one or by their count. -/
theorem sumR_pick (out : List Int) (g : Nat → Nat) (n : Nat) : ∀ m, m ≤ n → sumR (fun x => if mem out (x : Int) then 0 else g x) m = sumR (fun q => g (pickU out q n)) (cntU out m)
  | 0, _ => rfl
  | m + 1, h => by
    rw [sumR, sumR_pick out g n m (by omega), cntU]
    cases hm : mem out (m : Int)
    · show _ + g m = sumR _ (cntU out m + 1)
      rw [sumR, pickU_here hm (by omega)]
    · rfl
theorem unrank_pre (n : Nat) : ∀ l out k, ∃ t, unrank n l out k = out ++ t
  | 0, out, _ => ⟨[], by rw [unrank, List.append_nil]⟩
  | l + 1, out, k => by
    obtain ⟨t, h⟩ := unrank_pre n l (out ++ [((pickU out (k / fct l) n : Nat) : Int)]) (k % fct l)
    exact ⟨[((pickU out (k / fct l) n : Nat) : Int)] ++ t, by rw [unrank, h, List.append_assoc]⟩
theorem unrank_at {n l i j : Nat} {out : List Int} (hj : j < fct l) : unrank n (l + 1) out (i * fct l + j) = unrank n l (out ++ [((pickU out i n : Nat) : Int)]) j := by
  have h1 : (i * fct l + j) / fct l = i := by rw [Nat.mul_comm, Nat.mul_add_div (fct_pos l), Nat.div_eq_of_lt hj]; rfl
  have h2 : (i * fct l + j) % fct l = j := by rw [Nat.mul_comm, Nat.mul_add_mod, Nat.mod_eq_of_lt hj]
  rw [unrank, h1, h2]
def oneB (b : Bool) : Nat := if b then 1 else 0
/-- How many lists go on from one by l numbers and pass. -/
def cntR (n : Nat) (c : List Int → Bool) : Nat → List Int → Nat
  | 0, out => oneB (c out)
  | l + 1, out => if c out then sumR (fun x => if mem out (x : Int) then 0 else cntR n c l (out ++ [(x : Int)])) n else 0
theorem cntR_law (n : Nat) (c : List Int → Bool) (hc : ∀ a t, c (a ++ t) = true → c a = true) : ∀ l out, cntU out n = l → sumR (fun k => oneB (c (unrank n l out k))) (fct l) = cntR n c l out
  | 0, out, _ => by show sumR _ 1 = _; rw [sumR, sumR, unrank, cntR]; omega
  | l + 1, out, h => by
    rw [cntR]
    cases e : c out
    · refine sumR_zero _ fun k _ => ?_
      obtain ⟨t, ht⟩ := unrank_pre n (l + 1) out k
      cases e2 : c (unrank n (l + 1) out k)
      · rfl
      · rw [ht] at e2
        have := hc _ _ e2
        rw [e] at this; cases this
    · rw [show fct (l + 1) = (l + 1) * fct l from rfl, sumR_split, if_pos rfl,
        sumR_pick out (fun x => cntR n c l (out ++ [(x : Int)])) n n (Nat.le_refl _), h]
      refine sumR_congr _ fun i hi => ?_
      obtain ⟨p1, p2, p3⟩ := pickU_spec out i n (by omega)
      rw [← cntR_law n c hc l (out ++ [((pickU out i n : Nat) : Int)]) (by have := cntU_snoc out _ p2 n; rw [if_pos p1] at this; omega)]
      exact sumR_congr _ fun j hj => by rw [unrank_at hj]
theorem cntR_all (n : Nat) (c : List Int → Bool) (hc : ∀ a t, c (a ++ t) = true → c a = true) : sumR (fun k => oneB (c (permOf n k))) (fct n) = cntR n c n [] :=
  cntR_law n c hc n [] (cntU_nil n)
theorem cntR_le (n : Nat) (c : List Int → Bool) : ∀ l out, cntR n c l out ≤ n ^ l
  | 0, out => by rw [cntR, oneB]; split <;> simp
  | l + 1, out => by
    rw [cntR]
    split
    · rw [Nat.pow_succ, Nat.mul_comm]
      refine sumR_le _ fun i _ => ?_
      show (if _ then 0 else _) ≤ _
      split
      · exact Nat.zero_le _
      · exact cntR_le n c l _
    · exact Nat.zero_le _
end Go.Proofs.YtkmfhnjadpdkeaaDoor
