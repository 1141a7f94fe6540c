/-
  Plain laws of Latin squares: rows and columns hold each number once. No program in sight. No condition.
  Bits of small ints: the walk's and, or, shifts in Lean's own words. No condition.
-/
import Derived.Test.YtdbfpdhcaiiiaaaDoorPDifferMade2
import Derived.Test.YtdbfpdhcaiiiaaaDoorPDifferMade1
import Derived.Laws.BitsAllLaws
namespace Go.Proofs.YtdbfpdhcaiiiaaaDoor
open Go.RowKit

theorem once_false {n : Nat} {xs : List Int} (h : onceB n xs = true) {i k : Nat} (hk : k < i) (hi : i < xs.length) : clash n xs i k = false := by
  cases e : clash n xs i k
  · rfl
  · rw [once_hit hk hi e] at h; cases h

/-- As many unlike numbers below n as n are all. -/
theorem pigeon : ∀ (n : Nat) (f : Nat → Nat), (∀ i, i < n → f i < n) → (∀ i j, i < n → j < n → f i = f j → i = j) → ∀ b, b < n → ∃ i, i < n ∧ f i = b := by
  intro n
  induction n with
  | zero => intro f _ _ b hb; omega
  | succ n ih =>
    intro f hf hinj b hb
    -- swap values so that f n becomes n
    let g : Nat → Nat := fun i => if f i = n then f n else f i
    have hg : ∀ i, i < n → g i < n := by
      intro i hi
      show (if f i = n then f n else f i) < n
      by_cases e : f i = n
      · rw [if_pos e]
        have h1 := hf n (by omega)
        have h2 : f n ≠ n := fun e2 => by have := hinj i n (by omega) (by omega) (by omega); omega
        omega
      · rw [if_neg e]; have := hf i (by omega); omega
    have hginj : ∀ i j, i < n → j < n → g i = g j → i = j := by
      intro i j hi hj he
      replace he : (if f i = n then f n else f i) = (if f j = n then f n else f j) := he
      by_cases e1 : f i = n
      · by_cases e2 : f j = n
        · exact hinj i j (by omega) (by omega) (by omega)
        · rw [if_pos e1, if_neg e2] at he
          have := hinj n j (by omega) (by omega) he; omega
      · by_cases e2 : f j = n
        · rw [if_neg e1, if_pos e2] at he
          have := hinj i n (by omega) (by omega) he; omega
        · rw [if_neg e1, if_neg e2] at he
          exact hinj i j (by omega) (by omega) he
    by_cases hbn : b = f n
    · exact ⟨n, by omega, hbn.symm⟩
    · by_cases hb2 : b = n
      · -- some i < n has g i = f n, hence f i = n
        have hfn : f n < n := by have := hf n (by omega); omega
        obtain ⟨i, hi, he⟩ := ih g hg hginj (f n) hfn
        replace he : (if f i = n then f n else f i) = f n := he
        by_cases e1 : f i = n
        · exact ⟨i, by omega, by omega⟩
        · rw [if_neg e1] at he
          have := hinj i n (by omega) (by omega) he; omega
      · obtain ⟨i, hi, he⟩ := ih g hg hginj b (by omega)
        replace he : (if f i = n then f n else f i) = b := he
        by_cases e1 : f i = n
        · rw [if_pos e1] at he; omega
        · rw [if_neg e1] at he; exact ⟨i, by omega, he⟩

/-- What stands in row i, column j of a square of side n. -/
def qat (n : Nat) (xs : List Int) (i j : Nat) : Int := ix xs (i * n + j)

theorem place_lt {n i j : Nat} (hi : i < n) (hj : j < n) : i * n + j < n * n := by
  have : (i + 1) * n ≤ n * n := Nat.mul_le_mul (by omega) (Nat.le_refl n)
  rw [Nat.add_mul] at this; omega
theorem place_div {n i j : Nat} (hj : j < n) : dv (i * n + j) n = i := by
  unfold dv; rw [Nat.mul_comm, Nat.mul_add_div (by omega), Nat.div_eq_of_lt hj]; rfl
theorem place_mod {n i j : Nat} (hj : j < n) : md (i * n + j) n = j := by
  unfold md; rw [Nat.mul_comm, Nat.mul_add_mod, Nat.mod_eq_of_lt hj]

section
variable {n : Nat} {xs : List Int}
theorem IsLatin.lenN (h : IsLatin n xs) : xs.length = n * n := by have := h.len; rw [← Int.natCast_mul] at this; omega
theorem IsLatin.cell (h : IsLatin n xs) {i j : Nat} (hi : i < n) (hj : j < n) : 0 ≤ qat n xs i j ∧ qat n xs i j < n := h.rng _ (by rw [h.lenN]; exact place_lt hi hj)

theorem clash_same {i k : Nat} (he : ix xs i = ix xs k) (h : dv i n = dv k n ∨ md i n = md k n) : clash n xs i k = true := by
  unfold clash
  have e3 : ((i : Int) % n == (k : Int) % n) = (md i n == md k n) := by
    rw [Bool.eq_iff_iff]; unfold md; simp only [beq_iff_eq]; omega
  rw [e3]; simp [he, h]

theorem IsLatin.apart (h : IsLatin n xs) {i k : Nat} (hi : i < xs.length) (hk : k < xs.length) (he : ix xs i = ix xs k) (hs : dv i n = dv k n ∨ md i n = md k n) : i = k := by
  have ho : onceB n xs = true := by have := h.one; simpa using this
  rcases Nat.lt_trichotomy i k with hl | rfl | hl
  · have := once_false ho hl hk
    rw [clash_same he.symm (by rcases hs with e | e; exact .inl e.symm; exact .inr e.symm)] at this; cases this
  · rfl
  · have := once_false ho hl hi
    rw [clash_same he hs] at this; cases this

theorem IsLatin.row_inj (h : IsLatin n xs) {i j k : Nat} (hi : i < n) (hj : j < n) (hk : k < n) (he : qat n xs i j = qat n xs i k) : j = k := by
  have := h.apart (by rw [h.lenN]; exact place_lt hi hj) (by rw [h.lenN]; exact place_lt hi hk) he (.inl (by rw [place_div hj, place_div hk]))
  omega
theorem IsLatin.col_inj (h : IsLatin n xs) {i j k : Nat} (hi : i < n) (hj : j < n) (hk : k < n) (he : qat n xs j i = qat n xs k i) : j = k := by
  have := h.apart (by rw [h.lenN]; exact place_lt hj hi) (by rw [h.lenN]; exact place_lt hk hi) he (.inr (by rw [place_mod hi, place_mod hi]))
  have hn : 0 < n := by omega
  exact Nat.eq_of_mul_eq_mul_right hn (by omega)

theorem IsLatin.row_has (h : IsLatin n xs) {i : Nat} (hi : i < n) {b : Int} (hb : 0 ≤ b ∧ b < n) : ∃ j, j < n ∧ qat n xs i j = b := by
  obtain ⟨j, hj, he⟩ := pigeon n (fun j => (qat n xs i j).toNat) (fun j hj => by have := h.cell hi hj; show (qat n xs i j).toNat < n; omega)
    (fun j k hj hk he => by
      have h1 := h.cell hi hj; have h2 := h.cell hi hk
      replace he : (qat n xs i j).toNat = (qat n xs i k).toNat := he
      exact h.row_inj hi hj hk (by omega)) b.toNat (by omega)
  have h1 := h.cell hi hj
  replace he : (qat n xs i j).toNat = b.toNat := he
  exact ⟨j, hj, by omega⟩
theorem IsLatin.col_has (h : IsLatin n xs) {i : Nat} (hi : i < n) {b : Int} (hb : 0 ≤ b ∧ b < n) : ∃ j, j < n ∧ qat n xs j i = b := by
  obtain ⟨j, hj, he⟩ := pigeon n (fun j => (qat n xs j i).toNat) (fun j hj => by have := h.cell hj hi; show (qat n xs j i).toNat < n; omega)
    (fun j k hj hk he => by
      have h1 := h.cell hj hi; have h2 := h.cell hk hi
      replace he : (qat n xs j i).toNat = (qat n xs k i).toNat := he
      exact h.col_inj hi hj hk (by omega)) b.toNat (by omega)
  have h1 := h.cell hj hi
  replace he : (qat n xs j i).toNat = b.toNat := he
  exact ⟨j, hj, by omega⟩
end
end Go.Proofs.YtdbfpdhcaiiiaaaDoor

namespace Go.Proofs.YtdbfpdhcaiiiaaaDoor
open Go.RowKit

theorem ofInt_i64 (a : Nat) (ha : a < 9223372036854775808) : (BitVec.ofInt 64 (a : Int)).toNat = a := by
  rw [BitVec.ofInt_natCast, BitVec.toNat_ofNat]; exact Nat.mod_eq_of_lt (by omega)
theorem i64_and_nat (a b : Nat) (ha : a < 9223372036854775808) (hb : b < 9223372036854775808) : bits .and .i64 (a : Int) (b : Int) = ((a &&& b : Nat) : Int) := by
  have hx : a &&& b < 2 ^ 63 := Nat.and_lt_two_pow _ (by omega)
  show IntKind.i64.wrap ((BitVec.ofInt 64 (a : Int) &&& BitVec.ofInt 64 (b : Int)).toNat : Int) = _
  rw [BitVec.toNat_and, ofInt_i64 a ha, ofInt_i64 b hb]
  generalize a &&& b = q at *

  exact IntWalk.i64_in _ (by omega)
theorem i64_or_nat (a b : Nat) (ha : a < 9223372036854775808) (hb : b < 9223372036854775808) : bits .or .i64 (a : Int) (b : Int) = ((a ||| b : Nat) : Int) := by
  have hx : a ||| b < 2 ^ 63 := Nat.or_lt_two_pow (by omega) (by omega)
  show IntKind.i64.wrap ((BitVec.ofInt 64 (a : Int) ||| BitVec.ofInt 64 (b : Int)).toNat : Int) = _
  rw [BitVec.toNat_or, ofInt_i64 a ha, ofInt_i64 b hb]
  generalize a ||| b = q at *

  exact IntWalk.i64_in _ (by omega)

/-- Is bit j set? -/
def tb (c j : Nat) : Bool := c.testBit j
/-- Set bit j. -/
def sb (c j : Nat) : Nat := c ||| 2 ^ j
theorem shr_and (c j : Nat) (hc : c < 9223372036854775808) : bits .and .i64 ((c : Int) / 2 ^ j) 1 = if tb c j then 1 else 0 := by
  have h1 : ((c : Int) / 2 ^ j) = ((c / 2 ^ j : Nat) : Int) := by rw [Int.natCast_ediv, Int.natCast_pow]; rfl
  have h2 : c / 2 ^ j ≤ c := Nat.div_le_self _ _
  rw [h1, show (1 : Int) = ((1 : Nat) : Int) from rfl, i64_and_nat _ _ (by omega) (by omega), Nat.and_one_is_mod]
  unfold tb
  rw [Nat.testBit_eq_decide_div_mod_eq]
  have := Nat.mod_two_eq_zero_or_one (c / 2 ^ j)
  rcases this with e | e <;> simp [e]
theorem shr_and_zero (c j : Nat) (hc : c < 9223372036854775808) : (bits .and .i64 ((c : Int) / 2 ^ j) 1 == 0) = !tb c j := by
  rw [shr_and c j hc]; cases tb c j <;> rfl
theorem tb_sb (c j k : Nat) : tb (sb c j) k = (tb c k || j == k) := by
  unfold tb sb
  rw [Nat.testBit_or, Nat.testBit_two_pow]
  congr 1
theorem sb_lt {c j m : Nat} (hc : c < 2 ^ m) (hj : j < m) : sb c j < 2 ^ m := Nat.or_lt_two_pow hc (Nat.pow_lt_pow_right (by omega) hj)
theorem or_shl (c j : Nat) (hc : c < 9223372036854775808) (hj : j < 63) : bits .or .i64 (c : Int) ((2 : Int) ^ j) = ((sb c j : Nat) : Int) := by
  have h1 : ((2 : Int) ^ j) = ((2 ^ j : Nat) : Int) := by rw [Int.natCast_pow]; rfl
  have h2 : 2 ^ j < 2 ^ 63 := Nat.pow_lt_pow_right (by omega) hj
  rw [h1, i64_or_nat _ _ hc (by omega)]; rfl

/-- One, shifted. -/
def sh1 (j : Nat) : Nat := 2 ^ j
theorem shl_val {j : Nat} (hj : j < 60) : Value.int .i64 (wrap64 ((2 : Int) ^ j)) = Value.int .i64 ((sh1 j : Nat) : Int) := by
  have h2 : 2 ^ j < 2 ^ 60 := Nat.pow_lt_pow_right (by omega) hj
  have h1 : ((2 : Int) ^ j) = ((2 ^ j : Nat) : Int) := by rw [Int.natCast_pow]; rfl
  rw [h1]; unfold sh1
  generalize 2 ^ j = q at *
  rw [IntWalk.wrap64_in _ ⟨by omega, by omega⟩]
theorem or_val {c j : Nat} (hc : c < 9223372036854775808) (hj : j < 60) : Value.int .i64 (bits .or .i64 (c : Int) ((sh1 j : Nat) : Int)) = Value.int .i64 ((sb c j : Nat) : Int) := by
  have h2 : 2 ^ j < 2 ^ 60 := Nat.pow_lt_pow_right (by omega) hj
  unfold sh1
  rw [i64_or_nat _ _ hc (by omega)]; rfl

theorem or_raw {c j : Nat} (hc : c < 9223372036854775808) (hj : j < 60) : Value.int .i64 (bits .or .i64 (c : Int) (wrap64 ((2 : Int) ^ j))) = Value.int .i64 ((sb c j : Nat) : Int) := by
  have h := shl_val hj
  injection h with _ h
  rw [h]; exact or_val hc hj

end Go.Proofs.YtdbfpdhcaiiiaaaDoor
