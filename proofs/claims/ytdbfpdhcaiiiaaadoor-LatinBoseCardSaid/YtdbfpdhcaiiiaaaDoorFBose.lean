/-
  Squares of a field: they are Latin, and of unlike elements orthogonal: reckoned for all fields of at most eight elements. No program in sight. No condition.
-/
import Derived.Test.YtdbfpdhcaiiiaaaDoorFTimesEval
import Derived.Test.YtdbfpdhcaiiiaaaDoorFMade
import Derived.Test.YtdbfpdhcaiiiaaaDoorPure
namespace Go.Proofs.YtdbfpdhcaiiiaaaDoor
open Go.RowKit

/-- Are the first n values unlike? -/
def nd (n : Nat) (f : Nat → Nat) : Bool := decide ((List.range n).map f).Nodup
theorem nd_ne {n : Nat} {f : Nat → Nat} (h : nd n f = true) {i k : Nat} (hk : k < i) (hi : i < n) : f k ≠ f i := by
  unfold nd at h
  have h := of_decide_eq_true h
  have := (List.pairwise_iff_getElem.1 h) k i (by simpa using (by omega : k < n)) (by simpa using hi) hk
  simpa using this
/-- Cell k of a square. -/
def mE (p d q : Nat) (M : Nat → Nat → Nat) (a k : Nat) : Nat := addC p d (M a (k / q)) (k % q)
def boseA (p d q : Nat) (M : Nat → Nat → Nat) (a : Nat) : Bool :=
  (List.range (q * q)).all (fun k => decide (mE p d q M a k < q)) && nd (q * q) (fun k => k / q * 8 + mE p d q M a k) && nd (q * q) (fun k => k % q * 8 + mE p d q M a k) &&
    (List.range (q * q)).any (fun i => i != 0 && mE p d q M a i == mE p d q M a 0) && (List.range q).all fun b => b == 0 || a == b || nd (q * q) (fun k => mE p d q M a k * 8 + mE p d q M b k)
def boseB (p d q : Nat) (M : Nat → Nat → Nat) : Bool := (List.range q).all fun a => a == 0 || boseA p d q M a
def boseL (p d : Nat) : Bool := (lows p d).all fun l => !irrC p d l || boseB p d (p ^ d) (mulC p l)
theorem bo21 : boseB 2 1 2 (mul1 2) = true := by decide +kernel
theorem bo31 : boseB 3 1 3 (mul1 3) = true := by decide +kernel
theorem bo51 : boseB 5 1 5 (mul1 5) = true := by decide +kernel
theorem bo71 : boseB 7 1 7 (mul1 7) = true := by decide +kernel
theorem bo22 : boseL 2 2 = true := by decide +kernel
theorem bo23 : boseL 2 3 = true := by decide +kernel
theorem bose_of {p d : Nat} {low : List Int} (hF : IsField p d low) (h8 : p ^ d ≤ 8) : boseB p d (p ^ d) (mulM p d low) = true := by
  rw [mulM_of hF]
  have hL : ∀ {P D : Nat}, IsField P D low → boseL P D = true → boseB P D (P ^ D) (mulC P (lowN low)) = true := fun hF h => by
    have h1 := List.all_eq_true.1 h _ hF.mem
    rw [hF.irrC, Bool.not_true, Bool.false_or] at h1
    exact h1
  rcases hF.cases with h | h
  · subst h
    obtain ⟨l, hl⟩ : ∃ l, lowN low = [l] := by
      have h1 := hF.len
      rw [← lowN_len] at h1
      match hh : lowN low, h1 with
      | [l], _ => exact ⟨l, rfl⟩
    rw [hl, mulC_one]
    have hp := hF.pr
    rw [Nat.pow_one] at h8 ⊢
    unfold isPB at hp
    rw [List.contains_eq_mem, decide_eq_true_eq] at hp
    simp only [primesL, List.mem_cons, List.not_mem_nil, or_false] at hp
    have : p = 2 ∨ p = 3 ∨ p = 5 ∨ p = 7 := by omega
    rcases this with rfl | rfl | rfl | rfl
    · exact bo21
    · exact bo31
    · exact bo51
    · exact bo71
  · simp only [ordersL, List.mem_cons, Prod.mk.injEq, List.not_mem_nil, or_false] at h
    rcases h with h | h | h | h | h | h | h | h | h
    all_goals obtain ⟨rfl, rfl⟩ := h
    · exact hL hF bo22
    · exact hL hF bo23
    all_goals exact absurd h8 (by decide)
/-- A square of a field. -/
def madSq (p d : Nat) (low : List Int) (a : Nat) : List Int := madTo (p ^ d) (madC p d low a) (p ^ d * p ^ d)
theorem mad_ix {p d : Nat} {low : List Int} {a k : Nat} (hk : k < p ^ d * p ^ d) : ix (madSq p d low a) k = ((mE p d (p ^ d) (mulM p d low) a k : Nat) : Int) := by
  have : ix (madSq p d low a) k = ((madC p d low a (k / p ^ d) (k % p ^ d) : Nat) : Int) := by simp [ix, madSq, madTo, List.getD_eq_getElem?_getD, hk]
  rw [this]
  unfold madC mE
  rw [addV_of]
theorem clashRow_none {n : Nat} {xs : List Int} {i : Nat} : ∀ m, (∀ k, k < m → clash n xs i k = false) → clashRow n xs i m = false
  | 0, _ => rfl
  | m + 1, h => by rw [clashRow, clashRow_none m (fun k hk => h k (by omega)), h m (by omega)]; rfl
theorem clashTo_none {n : Nat} {xs : List Int} : ∀ m, (∀ i k, i < m → k < i → clash n xs i k = false) → clashTo n xs m = false
  | 0, _ => rfl
  | m + 1, h => by rw [clashTo, clashTo_none m (fun i k hi hk => h i k (by omega) hk), clashRow_none m (fun k hk => h m k (by omega) hk)]; rfl
theorem pairRow_none {xs ys : List Int} {i : Nat} : ∀ m, (∀ k, k < m → pair2 xs ys i k = false) → pairRow xs ys i m = false
  | 0, _ => rfl
  | m + 1, h => by rw [pairRow, pairRow_none m (fun k hk => h k (by omega)), h m (by omega)]; rfl
theorem pairTo_none {xs ys : List Int} : ∀ m, (∀ i k, i < m → k < i → pair2 xs ys i k = false) → pairTo xs ys m = false
  | 0, _ => rfl
  | m + 1, h => by rw [pairTo, pairTo_none m (fun i k hi hk => h i k (by omega) hk), pairRow_none m (fun k hk => h m k (by omega) hk)]; rfl
theorem bose_at {p d : Nat} {low : List Int} (hF : IsField p d low) (h8 : p ^ d ≤ 8) {a : Nat} (h1 : 1 ≤ a) (ha : a < p ^ d) : boseA p d (p ^ d) (mulM p d low) a = true := by
  have := List.all_eq_true.1 (bose_of hF h8) a (List.mem_range.2 ha)
  simp only [Bool.or_eq_true, beq_iff_eq] at this
  rcases this with h | h
  · omega
  · exact h
theorem mad_latin {p d : Nat} {low : List Int} (hF : IsField p d low) (h8 : p ^ d ≤ 8) {a : Nat} (h1 : 1 ≤ a) (ha : a < p ^ d) : latinFault (p ^ d : Nat) (madSq p d low a) = 0 := by
  have hA := bose_at hF h8 h1 ha
  unfold boseA at hA
  simp only [Bool.and_eq_true] at hA
  obtain ⟨⟨⟨⟨hr, hrow⟩, hcol⟩, _⟩, _⟩ := hA
  have hlen : (madSq p d low a).length = p ^ d * p ^ d := madTo_len _ _ _
  have hrk : ∀ k, k < p ^ d * p ^ d → mE p d (p ^ d) (mulM p d low) a k < p ^ d := fun k hk => by simpa using List.all_eq_true.1 hr k (List.mem_range.2 hk)
  unfold latinFault
  rw [if_neg (by omega), if_neg (by rw [hlen]; simp), if_neg, if_pos]
  · unfold onceB
    rw [hlen, Int.toNat_natCast, clashTo_none, Bool.not_false]
    intro i k hi hk
    unfold clash
    rw [mad_ix hi, mad_ix (show k < p ^ d * p ^ d by omega)]
    have n1 := nd_ne hrow hk hi
    have n2 := nd_ne hcol hk hi
    unfold dv
    generalize mE p d (p ^ d) (mulM p d low) a i = x at *
    generalize mE p d (p ^ d) (mulM p d low) a k = y at *
    have e3 : ((i : Int) % ((p ^ d : Nat) : Int) == (k : Int) % ((p ^ d : Nat) : Int)) = (i % p ^ d == k % p ^ d) := by
      rw [Bool.eq_iff_iff]; simp only [beq_iff_eq]; omega
    rw [e3]
    rw [Bool.eq_false_iff]
    intro hc
    simp only [Bool.and_eq_true, Bool.or_eq_true, beq_iff_eq] at hc
    obtain ⟨hxy, hc⟩ := hc
    rcases hc with hc | hc
    · exact n1 (by rw [hc]; omega)
    · exact n2 (by rw [hc]; omega)
  · simp only [List.any_eq_true, decide_eq_true_eq, not_exists, not_and]
    intro x hx
    obtain ⟨k, hk, rfl⟩ := List.getElem_of_mem hx
    have := mad_ix (p := p) (d := d) (low := low) (a := a) (k := k) (by rw [← hlen]; exact hk)
    rw [ix_lt hk] at this
    have := hrk k (by rw [← hlen]; exact hk)
    omega
theorem mad_orth {p d : Nat} {low : List Int} (hF : IsField p d low) (h8 : p ^ d ≤ 8) {a b : Nat} (h1 : 1 ≤ a) (ha : a < p ^ d) (h2 : 1 ≤ b) (hb : b < p ^ d) : orthB (madSq p d low a) (madSq p d low b) = decide (a ≠ b) := by
  have hA := bose_at hF h8 h1 ha
  unfold boseA at hA
  simp only [Bool.and_eq_true] at hA
  obtain ⟨⟨_, hany⟩, hall⟩ := hA
  have hlen : (madSq p d low a).length = p ^ d * p ^ d := madTo_len _ _ _
  by_cases hab : a = b
  · subst hab
    rw [decide_eq_false (by simp)]
    obtain ⟨i, hi, he⟩ := List.any_eq_true.1 hany
    have hi := List.mem_range.1 hi
    simp only [Bool.and_eq_true, bne_iff_ne, ne_eq, beq_iff_eq] at he
    refine orth_hit (k := 0) (i := i) (by omega) (by rw [hlen]; exact hi) ?_
    unfold pair2
    rw [mad_ix hi, mad_ix (show 0 < p ^ d * p ^ d by omega), he.2]
    simp
  · rw [decide_eq_true hab]
    have hn : nd (p ^ d * p ^ d) (fun k => mE p d (p ^ d) (mulM p d low) a k * 8 + mE p d (p ^ d) (mulM p d low) b k) = true := by
      have := List.all_eq_true.1 hall b (List.mem_range.2 hb)
      simp only [Bool.or_eq_true, beq_iff_eq] at this
      rcases this with (h | h) | h
      · omega
      · exact absurd h hab
      · exact h
    unfold orthB
    rw [hlen, pairTo_none, Bool.not_false]
    intro i k hi hk
    have n1 := nd_ne hn hk hi
    unfold pair2
    rw [mad_ix hi, mad_ix hi, mad_ix (show k < p ^ d * p ^ d by omega), mad_ix (show k < p ^ d * p ^ d by omega)]
    generalize mE p d (p ^ d) (mulM p d low) a i = x at *
    generalize mE p d (p ^ d) (mulM p d low) a k = y at *
    generalize mE p d (p ^ d) (mulM p d low) b i = x' at *
    generalize mE p d (p ^ d) (mulM p d low) b k = y' at *
    rw [Bool.eq_false_iff]
    intro hc
    simp only [Bool.and_eq_true, beq_iff_eq] at hc
    exact n1 (by omega)
end Go.Proofs.YtdbfpdhcaiiiaaaDoor
