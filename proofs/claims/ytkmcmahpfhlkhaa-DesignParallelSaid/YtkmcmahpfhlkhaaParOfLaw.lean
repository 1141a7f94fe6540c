/-
  Plain law: how many points a block has; what the first blocks are, step by step. No program in sight. No condition.
-/
import Derived.Test.YtkmcmahpfhlkhaaCanCut
namespace Go.Proofs.Ytkmcmahpfhlkhaa
open Go.RowKit

theorem cntS_congr {S T : Nat} : ∀ {n : Nat}, (∀ x, x < n → tb S x = tb T x) → cntS S n = cntS T n
  | 0, _ => rfl
  | n + 1, h => by rw [cntS, cntS, cntS_congr (n := n) fun x hx => h x (by omega), h n (by omega)]
theorem cntS_sb {S y : Nat} (hy : tb S y = false) : ∀ {n : Nat}, cntS (sb S y) n = cntS S n + if y < n then 1 else 0
  | 0 => rfl
  | n + 1 => by
    rw [cntS, cntS, cntS_sb hy (n := n), tb_sb]
    by_cases e : y = n
    · subst e
      rw [if_neg (Nat.lt_irrefl y), if_pos (Nat.lt_succ_self y), hy]
      simp
    · have : (y == n) = false := by simpa using e
      rw [this, Bool.or_false]
      by_cases h : y < n
      · rw [if_pos h, if_pos (show y < n + 1 by omega)]; omega
      · rw [if_neg h, if_neg (show ¬ y < n + 1 by omega)]; omega
theorem cntS_bits {n : Nat} {b : List Int} (h : IsBlock n b) : ∀ {j : Nat}, j ≤ b.length → cntS (bitsOf b j) n = j
  | 0, _ => by
    have : ∀ n, cntS 0 n = 0 := fun n => by induction n with
      | zero => rfl
      | succ n ih => rw [cntS, ih]; simp [tb]
    exact this n
  | j + 1, hj => by
    have hr := h.rng j (by omega)
    rw [bitsOf, cntS_sb, cntS_bits h (by omega), if_pos (by omega)]
    cases e : tb (bitsOf b j) (ix b j).toNat
    · rfl
    · obtain ⟨i, hi, e2⟩ := (tb_bitsOf h.rng _ (by omega)).1 e
      have := inc_lt h.inc hi (by omega)
      omega
theorem cntS_set {n : Nat} {b : List Int} (h : IsBlock n b) : cntS (setOf b) n = b.length := cntS_bits h (Nat.le_refl _)
theorem cntS_dn {S B : Nat} (hS : S < 18446744073709551616) (hB : B < 18446744073709551616) : ∀ {n : Nat}, (∀ x, x < n → tb B x = true → tb S x = true) → cntS (dn S B) n + cntS B n = cntS S n
  | 0, _ => rfl
  | n + 1, h => by
    have ih := cntS_dn hS hB (n := n) fun x hx => h x (by omega)
    rw [cntS, cntS, cntS, tb_dn hS hB]
    have hn := h n (by omega)
    cases e : tb B n
    · cases tb S n <;> simp <;> omega
    · rw [hn e]; simp; omega
theorem cntS_zero {n S : Nat} (h : S < 2 ^ n) : cntS S n = 0 ↔ S = 0 := by
  rw [zero_iff h]
  have : ∀ m, cntS S m = 0 ↔ ∀ x, x < m → tb S x = false := fun m => by
    induction m with
    | zero => exact ⟨fun _ x hx => absurd hx (Nat.not_lt_zero _), fun _ => rfl⟩
    | succ m ih =>
      rw [cntS]
      constructor
      · intro h0 x hx
        by_cases e : x = m
        · subst e
          cases e2 : tb S x
          · rfl
          · rw [e2] at h0; simp at h0
        · exact ih.1 (by omega) x (by omega)
      · intro h0
        rw [ih.2 fun x hx => h0 x (by omega), h0 m (by omega)]; rfl
  exact this n
theorem cntS_full (n : Nat) : cntS (fullS n) n = n := by
  have : ∀ m, m ≤ n → cntS (fullS n) m = m := fun m => by
    induction m with
    | zero => intro _; rfl
    | succ m ih => intro hm; rw [cntS, ih (by omega), tb_full, decide_eq_true (by omega)]; rfl
  exact this n (Nat.le_refl _)
theorem block_zero {n : Nat} {b : List Int} (h : IsBlock n b) : setOf b = 0 ↔ b.length = 0 := by
  rw [← cntS_zero (setOf_lt h), cntS_set h]
/-- Of N blocks, from block k on: block k serves, or does not. -/
theorem par_take {B : Nat → Nat} {N k S : Nat} {l : List Nat} (hk : k < N) (hS : S ≠ 0) (h0 : B k ≠ 0) (hs : dn (B k) S = 0) (h : par B N (N - (k + 1)) (dn S (B k)) = some l) : par B N (N - k) S = some (k :: l) := by
  have e : N - k = (N - (k + 1)) + 1 := by omega
  have e2 : N - (N - (k + 1) + 1) = k := by omega
  rw [e, par, if_neg hS, e2, if_pos ⟨h0, hs⟩, h]
theorem par_pass {B : Nat → Nat} {N k S : Nat} (hk : k < N) (hS : S ≠ 0) (h : B k = 0 ∨ dn (B k) S ≠ 0 ∨ par B N (N - (k + 1)) (dn S (B k)) = none) : par B N (N - k) S = par B N (N - (k + 1)) S := by
  have e : N - k = (N - (k + 1)) + 1 := by omega
  have e2 : N - (N - (k + 1) + 1) = k := by omega
  rw [e, par, if_neg hS, e2]
  by_cases hc : B k ≠ 0 ∧ dn (B k) S = 0
  · rw [if_pos hc]
    rcases h with h | h | h
    · exact absurd h hc.1
    · exact absurd hc.2 h
    · rw [h]
  · rw [if_neg hc]
theorem par_done {B : Nat → Nat} {N m : Nat} : par B N m 0 = some [] := by cases m <;> rw [par, if_pos rfl]
theorem par_end {B : Nat → Nat} {N S : Nat} (h : S ≠ 0) : par B N 0 S = none := by rw [par, if_neg h]
theorem canN_app {xss : List (List Int)} {n : Nat} {o t : List Int} : ∀ {i : Nat}, i ≤ o.length → canN xss n (o ++ t) i = canN xss n o i
  | 0, _ => rfl
  | i + 1, h => by
    have e : ix (o ++ t) i = ix o i := by unfold ix; rw [List.getD_eq_getElem?_getD, List.getD_eq_getElem?_getD, List.getElem?_append_left (by omega)]
    rw [canN, canN, canN_app (by omega), e]
theorem canN_snoc {xss : List (List Int)} {n k S : Nat} {o : List Int} (h : canN xss n o o.length = some S) : canN xss n (o ++ [(k : Int)]) (o ++ [(k : Int)]).length = if dn (blkS xss k) S = 0 then some (dn S (blkS xss k)) else none := by
  have e : ix (o ++ [(k : Int)]) o.length = (k : Int) := by unfold ix; simp
  rw [List.length_append, List.length_singleton, canN, canN_app (Nat.le_refl _), h, e]
  rfl
end Go.Proofs.Ytkmcmahpfhlkhaa
