/-
  Plain law: the first blocks that cut a set of points; that there are some, said of any choice of blocks. No program in sight. No condition.
-/
import Derived.Test.YtkmcmahpfhlkhaaDSets
import Derived.Laws.BitsAllLaws
namespace Go.Proofs.Ytkmcmahpfhlkhaa
open Go.RowKit

/-- a without b. -/
def dn (a b : Nat) : Nat := a &&& (18446744073709551615 - b)
theorem tb_dn {a b : Nat} (ha : a < 18446744073709551616) (hb : b < 18446744073709551616) (x : Nat) : tb (dn a b) x = (tb a x && !tb b x) := by
  unfold tb dn
  rw [Nat.testBit_and]
  have e : (18446744073709551615 - b).testBit x = (decide (x < 64) && !b.testBit x) := by
    have := Nat.testBit_two_pow_sub_succ (n := 64) (x := b) hb x
    rwa [show 2 ^ 64 - (b + 1) = 18446744073709551615 - b by omega] at this
  rw [e]
  by_cases hx : x < 64
  · rw [decide_eq_true hx, Bool.true_and]
  · rw [decide_eq_false hx, Bool.false_and, Bool.and_false]
    have : a.testBit x = false := Nat.testBit_lt_two_pow (Nat.lt_of_lt_of_le (show a < 2 ^ 64 from ha) (Nat.pow_le_pow_right (by omega) (by omega)))
    rw [this]; rfl
theorem tb_big {n S x : Nat} (h : S < 2 ^ n) (hx : n ≤ x) : tb S x = false :=
  Nat.testBit_lt_two_pow (Nat.lt_of_lt_of_le h (Nat.pow_le_pow_right (by omega) hx))
theorem zero_iff {n S : Nat} (h : S < 2 ^ n) : S = 0 ↔ ∀ x, x < n → tb S x = false := by
  constructor
  · rintro rfl x _; unfold tb; simp
  · intro hx
    refine Nat.eq_of_testBit_eq fun i => ?_
    rw [Nat.zero_testBit]
    by_cases hi : i < n
    · exact hx i hi
    · exact tb_big h (by omega)
theorem dn_lt {n a b : Nat} (h : a < 2 ^ n) : dn a b < 2 ^ n := Nat.lt_of_le_of_lt Nat.and_le_left h
theorem pow60 {n : Nat} (h : n ≤ 60) : 2 ^ n ≤ 1152921504606846976 := Nat.pow_le_pow_right (n := 2) (by omega) h

/-- The first blocks (by their places) that cut S, of the last m of N. -/
def par (B : Nat → Nat) (N : Nat) : Nat → Nat → Option (List Nat)
  | 0, S => if S = 0 then some [] else none
  | m + 1, S => if S = 0 then some [] else if B (N - (m + 1)) ≠ 0 ∧ dn (B (N - (m + 1))) S = 0 then
      (match par B N m (dn S (B (N - (m + 1)))) with
        | some l => some ((N - (m + 1)) :: l)
        | none => par B N m S)
    else par B N m S
/-- A choice of blocks, from block k on, that cut S. -/
structure Cov (B : Nat → Nat) (n k N : Nat) (S : Nat) (c : Nat → Bool) : Prop where
  rng : ∀ i, c i = true → k ≤ i ∧ i < N ∧ B i ≠ 0
  cov : ∀ x, x < n → (tb S x = true ↔ ∃ i, c i = true ∧ tb (B i) x = true)
  one : ∀ x i j, x < n → c i = true → c j = true → tb (B i) x = true → tb (B j) x = true → i = j
section
variable {B : Nat → Nat} {n N : Nat}
theorem cov_nil {k S : Nat} (hS : S = 0) : Cov B n k N S (fun _ => false) :=
  ⟨(fun i h => by cases h), (fun x _ => by subst hS; simp [tb]), (fun x i j _ h => by cases h)⟩
theorem Cov.weaken {k k' S : Nat} {c : Nat → Bool} (h : Cov B n k N S c) (hk : k' ≤ k) : Cov B n k' N S c :=
  ⟨fun i hi => by have := h.rng i hi; exact ⟨by omega, this.2⟩, h.cov, h.one⟩
theorem dn_zero {a S : Nat} (hn : n ≤ 60) (ha : a < 2 ^ n) (hS : S < 2 ^ n) : dn a S = 0 ↔ ∀ x, x < n → tb a x = true → tb S x = true := by
  have hp := pow60 hn
  rw [zero_iff (dn_lt ha)]
  constructor
  · intro h x hx hxa
    have := h x hx
    rw [tb_dn (by omega) (by omega), hxa, Bool.true_and] at this
    simpa using this
  · intro h x hx
    rw [tb_dn (by omega) (by omega)]
    cases e : tb a x
    · rfl
    · rw [h x hx e]; rfl
/-- A block more. -/
theorem Cov.add (hn : n ≤ 60) (hB : ∀ i, i < N → B i < 2 ^ n) {k S i : Nat} {c : Nat → Bool} (hS : S < 2 ^ n) (hi1 : k ≤ i) (hi2 : i < N) (h0 : B i ≠ 0) (hsub : dn (B i) S = 0) (h : Cov B n k N (dn S (B i)) c) : Cov B n k N S (fun j => decide (j = i) || c j) := by
  have hp := pow60 hn
  have hb := hB i hi2
  have sub := (dn_zero hn hb hS).1 hsub
  have off : ∀ x j, x < n → c j = true → tb (B j) x = true → tb (B i) x = false := fun x j hx hj hjx => by
    have := (h.cov x hx).2 ⟨j, hj, hjx⟩
    rw [tb_dn (by omega) (by omega)] at this
    cases e : tb (B i) x
    · rfl
    · rw [e] at this; simp at this
  refine ⟨fun j hj => ?_, fun x hx => ?_, fun x j j' hx hj hj' e e' => ?_⟩
  · rw [Bool.or_eq_true, decide_eq_true_eq] at hj
    rcases hj with rfl | hj
    · exact ⟨hi1, hi2, h0⟩
    · exact h.rng j hj
  · constructor
    · intro hxS
      cases e : tb (B i) x
      · obtain ⟨j, hj, hjx⟩ := (h.cov x hx).1 (by rw [tb_dn (by omega) (by omega), hxS, e]; rfl)
        exact ⟨j, by rw [hj, Bool.or_true], hjx⟩
      · exact ⟨i, by simp, e⟩
    · rintro ⟨j, hj, hjx⟩
      rw [Bool.or_eq_true, decide_eq_true_eq] at hj
      rcases hj with rfl | hj
      · exact sub x hx hjx
      · have := (h.cov x hx).2 ⟨j, hj, hjx⟩
        rw [tb_dn (by omega) (by omega), Bool.and_eq_true] at this
        exact this.1
  · rw [Bool.or_eq_true, decide_eq_true_eq] at hj hj'
    rcases hj with rfl | hj
    · rcases hj' with rfl | hj'
      · rfl
      · rw [off x j' hx hj' e'] at e; cases e
    · rcases hj' with rfl | hj'
      · rw [off x j hx hj e] at e'; cases e'
      · exact h.one x j j' hx hj hj' e e'
/-- A block less. -/
theorem Cov.del (hn : n ≤ 60) (hB : ∀ i, i < N → B i < 2 ^ n) {k S i : Nat} {c : Nat → Bool} (hS : S < 2 ^ n) (hci : c i = true) (h : Cov B n k N S c) :
    B i ≠ 0 ∧ dn (B i) S = 0 ∧ Cov B n k N (dn S (B i)) (fun j => !decide (j = i) && c j) := by
  have hp := pow60 hn
  obtain ⟨r1, r2, r3⟩ := h.rng i hci
  have hb := hB i r2
  refine ⟨r3, (dn_zero hn hb hS).2 fun x hx e => (h.cov x hx).2 ⟨i, hci, e⟩, ⟨fun j hj => ?_, fun x hx => ?_, fun x j j' hx hj hj' e e' => ?_⟩⟩
  · rw [Bool.and_eq_true] at hj; exact h.rng j hj.2
  · rw [tb_dn (by omega) (by omega), Bool.and_eq_true]
    constructor
    · rintro ⟨h1, h2⟩
      obtain ⟨j, hj, hjx⟩ := (h.cov x hx).1 h1
      refine ⟨j, ?_, hjx⟩
      have : j ≠ i := fun e => by subst e; rw [hjx] at h2; cases h2
      rw [hj, decide_eq_false this]; rfl
    · rintro ⟨j, hj, hjx⟩
      rw [Bool.and_eq_true, Bool.not_eq_true', decide_eq_false_iff_not] at hj
      refine ⟨(h.cov x hx).2 ⟨j, hj.2, hjx⟩, ?_⟩
      cases e : tb (B i) x
      · rfl
      · exact absurd (h.one x j i hx hj.2 hci hjx e) hj.1
  · rw [Bool.and_eq_true] at hj hj'
    exact h.one x j j' hx hj.2 hj'.2 e e'
theorem par_iff (hn : n ≤ 60) (hB : ∀ i, i < N → B i < 2 ^ n) : ∀ {m S : Nat}, m ≤ N → S < 2 ^ n → ((par B N m S).isSome = true ↔ ∃ c, Cov B n (N - m) N S c)
  | 0, S, _, hS => by
    rw [par]
    by_cases h0 : S = 0
    · rw [if_pos h0]; exact ⟨fun _ => ⟨_, cov_nil h0⟩, fun _ => rfl⟩
    · rw [if_neg h0]
      refine ⟨(fun h => by cases h), fun ⟨c, h⟩ => absurd ((zero_iff hS).2 fun x hx => ?_) h0⟩
      cases e : tb S x
      · rfl
      · obtain ⟨i, hi, _⟩ := (h.cov x hx).1 e
        have := h.rng i hi; omega
  | m + 1, S, hm, hS => by
    rw [par]
    by_cases h0 : S = 0
    · rw [if_pos h0]; exact ⟨fun _ => ⟨_, cov_nil h0⟩, fun _ => rfl⟩
    · rw [if_neg h0]
      have hk : N - (m + 1) < N := by omega
      have ek : N - m = N - (m + 1) + 1 := by omega
      have ih := par_iff hn hB (m := m) (S := S) (by omega) hS
      have ih2 := par_iff hn hB (m := m) (S := dn S (B (N - (m + 1)))) (by omega) (dn_lt hS)
      generalize N - (m + 1) = k at *
      rw [ek] at ih ih2
      have low : ∀ c, Cov B n k N S c → c k = false → Cov B n (k + 1) N S c := fun c h hc => ⟨fun i hi => by
        obtain ⟨r1, r2, r3⟩ := h.rng i hi
        have : i ≠ k := fun e => by subst e; rw [hi] at hc; cases hc
        exact ⟨by omega, r2, r3⟩, h.cov, h.one⟩
      have none_of : (∃ c, Cov B n k N S c) → (∀ c, Cov B n k N S c → c k = false) → (par B N m S).isSome = true := fun ⟨c, h⟩ hf => ih.2 ⟨c, low c h (hf c h)⟩
      by_cases hc : B k ≠ 0 ∧ dn (B k) S = 0
      · rw [if_pos hc]
        cases e : par B N m (dn S (B k)) with
        | some l =>
          refine ⟨fun _ => ?_, fun _ => rfl⟩
          obtain ⟨c, h⟩ := ih2.1 (by rw [e]; rfl)
          exact ⟨_, Cov.add hn hB hS (Nat.le_refl _) hk hc.1 hc.2 (h.weaken (by omega))⟩
        | none =>
          refine ⟨fun h => ?_, fun hex => ?_⟩
          · obtain ⟨c, h⟩ := ih.1 h; exact ⟨c, h.weaken (by omega)⟩
          · refine none_of hex fun c h => ?_
            cases ec : c k
            · rfl
            · obtain ⟨_, _, h3⟩ := h.del hn hB hS ec
              have : (par B N m (dn S (B k))).isSome = true := ih2.2 ⟨_, ⟨fun i hi => by
                obtain ⟨r1, r2, r3⟩ := h3.rng i hi
                rw [Bool.and_eq_true, Bool.not_eq_true', decide_eq_false_iff_not] at hi
                exact ⟨by omega, r2, r3⟩, h3.cov, h3.one⟩⟩
              rw [e] at this; cases this
      · rw [if_neg hc]
        refine ⟨fun h => ?_, fun hex => ?_⟩
        · obtain ⟨c, h⟩ := ih.1 h; exact ⟨c, h.weaken (by omega)⟩
        · refine none_of hex fun c h => ?_
          cases ec : c k
          · rfl
          · obtain ⟨h1, h2, _⟩ := h.del hn hB hS ec
            exact absurd ⟨h1, h2⟩ hc
/-- Where a block of a point is taken, the rest can be cut; else none can. -/
theorem cut_yes (hn : n ≤ 60) (hB : ∀ i, i < N → B i < 2 ^ n) {k S i : Nat} (hk : k ≤ N) (hS : S < 2 ^ n) (hi1 : k ≤ i) (hi2 : i < N) (h0 : B i ≠ 0) (hsub : dn (B i) S = 0) (h : (par B N (N - k) (dn S (B i))).isSome = true) : (par B N (N - k) S).isSome = true := by
  have e : N - (N - k) = k := by omega
  obtain ⟨c, hc⟩ := (par_iff hn hB (by omega) (dn_lt hS)).1 h
  rw [e] at hc
  exact (par_iff hn hB (by omega) hS).2 ⟨_, by rw [e]; exact hc.add hn hB hS hi1 hi2 h0 hsub⟩
theorem cut_no (hn : n ≤ 60) (hB : ∀ i, i < N → B i < 2 ^ n) {k S x : Nat} (hk : k ≤ N) (hS : S < 2 ^ n) (hx : x < n) (hxS : tb S x = true) (h : ∀ i, k ≤ i → i < N → tb (B i) x = true → dn (B i) S = 0 → (par B N (N - k) (dn S (B i))).isSome = false) : (par B N (N - k) S).isSome = false := by
  have e : N - (N - k) = k := by omega
  cases ep : (par B N (N - k) S).isSome
  · rfl
  · obtain ⟨c, hc⟩ := (par_iff hn hB (by omega) hS).1 ep
    rw [e] at hc
    obtain ⟨i, hi, hix⟩ := (hc.cov x hx).1 hxS
    obtain ⟨r1, r2, _⟩ := hc.rng i hi
    obtain ⟨_, h2, h3⟩ := hc.del hn hB hS hi
    have := h i r1 r2 hix h2
    have h4 := (par_iff hn hB (m := N - k) (by omega) (dn_lt hS)).2 ⟨_, by rw [e]; exact h3⟩
    rw [this] at h4; cases h4
end
end Go.Proofs.Ytkmcmahpfhlkhaa
