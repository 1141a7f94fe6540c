/-
  Plain law: how bits are counted in a word, digits by digits. No program in sight. No condition.
-/
import Derived.Test.YtkmcmahpfhlkhaaSumL
import Derived.Test.YtkmcmahpfhlkhaaBits
namespace Go.Proofs.Ytkmcmahpfhlkhaa
open Go.RowKit

def dsum (B : Nat) : Nat → Nat → Nat
  | 0, _ => 0
  | k + 1, x => x % B + dsum B k (x / B)
def digLe (B c : Nat) : Nat → Nat → Prop
  | 0, _ => True
  | k + 1, x => x % B ≤ c ∧ digLe B c k (x / B)
theorem and_digit (s t m x : Nat) (h : t ≤ s) : x &&& ((2 ^ t - 1) + 2 ^ s * m) = x % 2 ^ t + 2 ^ s * (x / 2 ^ s &&& m) := by
  have ht : 0 < 2 ^ t := Nat.two_pow_pos t
  have hs : 0 < 2 ^ s := Nat.two_pow_pos s
  have hle : 2 ^ t ≤ 2 ^ s := Nat.pow_le_pow_right (by omega) h
  have e1 : ((2 ^ t - 1) + 2 ^ s * m) % 2 ^ s = 2 ^ t - 1 := by rw [Nat.add_mul_mod_self_left]; exact Nat.mod_eq_of_lt (by omega)
  have e2 : ((2 ^ t - 1) + 2 ^ s * m) / 2 ^ s = m := by rw [Nat.add_mul_div_left _ _ hs, Nat.div_eq_of_lt (by omega)]; omega
  have h1 : (x &&& ((2 ^ t - 1) + 2 ^ s * m)) % 2 ^ s = x % 2 ^ t := by
    rw [Nat.and_mod_two_pow, e1, Nat.and_two_pow_sub_one_eq_mod, Nat.mod_mod_of_dvd _ (Nat.pow_dvd_pow 2 h)]
  have h2 : (x &&& ((2 ^ t - 1) + 2 ^ s * m)) / 2 ^ s = x / 2 ^ s &&& m := by
    rw [Nat.and_div_two_pow, e2]
  have := Nat.mod_add_div (x &&& ((2 ^ t - 1) + 2 ^ s * m)) (2 ^ s)
  rw [h1, h2] at this
  exact this.symm
def M1 : Nat → Nat | 0 => 0 | k + 1 => 1 + 4 * M1 k
def M2 : Nat → Nat | 0 => 0 | k + 1 => 3 + 16 * M2 k
def M3 : Nat → Nat | 0 => 0 | k + 1 => 15 + 256 * M3 k
theorem M1_32 : M1 32 = 6148914691236517205 := by decide
theorem M2_16 : M2 16 = 3689348814741910323 := by decide
theorem M3_8 : M3 8 = 1085102592571150095 := by decide
theorem and1 (k x : Nat) : x &&& M1 (k + 1) = x % 2 + 4 * (x / 4 &&& M1 k) := and_digit 2 1 (M1 k) x (by omega)
theorem and2 (k x : Nat) : x &&& M2 (k + 1) = x % 4 + 16 * (x / 16 &&& M2 k) := and_digit 4 2 (M2 k) x (by omega)
theorem and3 (k x : Nat) : x &&& M3 (k + 1) = x % 16 + 256 * (x / 256 &&& M3 k) := and_digit 8 4 (M3 k) x (by omega)
def s1 (k x : Nat) : Nat := (x / 2 &&& M1 k) + (x &&& M1 k)
def s2 (k x : Nat) : Nat := (x / 4 &&& M2 k) + (x &&& M2 k)
def s3 (k x : Nat) : Nat := (x / 16 + x) &&& M3 k
theorem step1 : ∀ k x, dsum 4 k (s1 k x) = dsum 2 (2 * k) x ∧ digLe 4 2 k (s1 k x)
  | 0, x => ⟨rfl, trivial⟩
  | k + 1, x => by
    have e : s1 (k + 1) x = (x / 2 % 2 + x % 2) + 4 * s1 k (x / 4) := by
      unfold s1
      rw [and1, and1, show x / 2 / 4 = x / 4 / 2 by omega]; omega
    obtain ⟨h1, h2⟩ := step1 k (x / 4)
    have e1 : s1 (k + 1) x % 4 = x / 2 % 2 + x % 2 := by rw [e]; omega
    have e2 : s1 (k + 1) x / 4 = s1 k (x / 4) := by rw [e]; omega
    constructor
    · show s1 (k + 1) x % 4 + dsum 4 k (s1 (k + 1) x / 4) = x % 2 + (x / 2 % 2 + dsum 2 (2 * k) (x / 2 / 2))
      rw [e1, e2, h1, show x / 2 / 2 = x / 4 by omega]; omega
    · show s1 (k + 1) x % 4 ≤ 2 ∧ digLe 4 2 k (s1 (k + 1) x / 4)
      rw [e1, e2]; exact ⟨by omega, h2⟩
theorem step2 : ∀ k x, digLe 4 2 (2 * k) x → dsum 16 k (s2 k x) = dsum 4 (2 * k) x ∧ digLe 16 4 k (s2 k x)
  | 0, x, _ => ⟨rfl, trivial⟩
  | k + 1, x, h => by
    have h' : x % 4 ≤ 2 ∧ x / 4 % 4 ≤ 2 ∧ digLe 4 2 (2 * k) (x / 4 / 4) := h
    obtain ⟨g1, g2, g3⟩ := h'
    rw [show x / 4 / 4 = x / 16 by omega] at g3
    have e : s2 (k + 1) x = (x / 4 % 4 + x % 4) + 16 * s2 k (x / 16) := by
      unfold s2
      rw [and2, and2, show x / 4 / 16 = x / 16 / 4 by omega]; omega
    obtain ⟨h1, h2⟩ := step2 k (x / 16) g3
    have e1 : s2 (k + 1) x % 16 = x / 4 % 4 + x % 4 := by rw [e]; omega
    have e2 : s2 (k + 1) x / 16 = s2 k (x / 16) := by rw [e]; omega
    constructor
    · show s2 (k + 1) x % 16 + dsum 16 k (s2 (k + 1) x / 16) = x % 4 + (x / 4 % 4 + dsum 4 (2 * k) (x / 4 / 4))
      rw [e1, e2, h1, show x / 4 / 4 = x / 16 by omega]; omega
    · show s2 (k + 1) x % 16 ≤ 4 ∧ digLe 16 4 k (s2 (k + 1) x / 16)
      rw [e1, e2]; exact ⟨by omega, h2⟩
theorem step3 : ∀ k x, digLe 16 4 (2 * k) x → dsum 256 k (s3 k x) = dsum 16 (2 * k) x ∧ digLe 256 8 k (s3 k x)
  | 0, x, _ => ⟨rfl, trivial⟩
  | k + 1, x, h => by
    have h' : x % 16 ≤ 4 ∧ x / 16 % 16 ≤ 4 ∧ digLe 16 4 (2 * k) (x / 16 / 16) := h
    obtain ⟨g1, g2, g3⟩ := h'
    rw [show x / 16 / 16 = x / 256 by omega] at g3
    have ek : (x / 16 + x) / 256 &&& M3 k = s3 k (x / 256) := by
      cases k with
      | zero => show _ &&& 0 = _ &&& 0; rw [Nat.and_zero, Nat.and_zero]
      | succ k =>
        have g4 : x / 256 % 16 ≤ 4 := g3.1
        unfold s3
        have key : (x / 16 + x) / 256 = x / 256 / 16 + x / 256 := by
          obtain ⟨q, hq⟩ : ∃ q, q = x / 256 := ⟨_, rfl⟩
          obtain ⟨b, hb⟩ : ∃ b, b = x / 16 % 16 := ⟨_, rfl⟩
          obtain ⟨a, ha⟩ : ∃ a, a = x % 16 := ⟨_, rfl⟩
          obtain ⟨c, hc⟩ : ∃ c, c = q / 16 := ⟨_, rfl⟩
          obtain ⟨e, he⟩ : ∃ e, e = q % 16 := ⟨_, rfl⟩
          rw [← hq] at g4 ⊢
          rw [← he] at g4
          rw [← hb] at g2
          rw [← ha] at g1
          have h1 : x / 16 = 16 * q + b := by omega
          have h2 : x = 256 * q + 16 * b + a := by omega
          have h3 : q = 16 * c + e := by omega
          have h4 : x / 16 + x = 256 * (q + c) + (16 * e + 17 * b + a) := by rw [h1]; omega
          rw [h4, ← hc]
          clear h1 h2 h3 h4 hq hb ha hc he
          omega
        rw [key]
    have e : s3 (k + 1) x = (x / 16 % 16 + x % 16) + 256 * s3 k (x / 256) := by
      rw [← ek]
      unfold s3
      rw [and3]; omega
    obtain ⟨h1, h2⟩ := step3 k (x / 256) g3
    have e1 : s3 (k + 1) x % 256 = x / 16 % 16 + x % 16 := by rw [e]; omega
    have e2 : s3 (k + 1) x / 256 = s3 k (x / 256) := by rw [e]; omega
    constructor
    · show s3 (k + 1) x % 256 + dsum 256 k (s3 (k + 1) x / 256) = x % 16 + (x / 16 % 16 + dsum 16 (2 * k) (x / 16 / 16))
      rw [e1, e2, h1, show x / 16 / 16 = x / 256 by omega]; omega
    · show s3 (k + 1) x % 256 ≤ 8 ∧ digLe 256 8 k (s3 (k + 1) x / 256)
      rw [e1, e2]; exact ⟨by omega, h2⟩
def s4 (x : Nat) : Nat := x + x / 256
def s5 (x : Nat) : Nat := x + x / 65536
def s6 (x : Nat) : Nat := x + x / 4294967296
theorem step4 (x : Nat) (h : digLe 256 8 8 x) (hx : x < 281474976710656) : s6 (s5 (s4 x)) % 128 = dsum 256 8 x := by
  simp only [digLe, dsum] at h ⊢
  unfold s6 s5 s4
  obtain ⟨h0, h1, h2, h3, h4, h5, h6, h7, _⟩ := h
  have z6 : x / 256 / 256 / 256 / 256 / 256 / 256 = 0 := by omega
  rw [z6]
  obtain ⟨d0, e0⟩ : ∃ d, d = x % 256 := ⟨_, rfl⟩
  obtain ⟨d1, e1⟩ : ∃ d, d = x / 256 % 256 := ⟨_, rfl⟩
  obtain ⟨d2, e2⟩ : ∃ d, d = x / 256 / 256 % 256 := ⟨_, rfl⟩
  obtain ⟨d3, e3⟩ : ∃ d, d = x / 256 / 256 / 256 % 256 := ⟨_, rfl⟩
  obtain ⟨d4, e4⟩ : ∃ d, d = x / 256 / 256 / 256 / 256 % 256 := ⟨_, rfl⟩
  obtain ⟨d5, e5⟩ : ∃ d, d = x / 256 / 256 / 256 / 256 / 256 % 256 := ⟨_, rfl⟩
  rw [← e0] at h0 ⊢; rw [← e1] at h1 ⊢; rw [← e2] at h2 ⊢; rw [← e3] at h3 ⊢; rw [← e4] at h4 ⊢; rw [← e5] at h5 ⊢
  have f5 : x / 256 / 256 / 256 / 256 / 256 = d5 := by omega
  have f4 : x / 256 / 256 / 256 / 256 = d4 + 256 * d5 := by omega
  have f3 : x / 256 / 256 / 256 = d3 + 256 * d4 + 65536 * d5 := by omega
  have f2 : x / 256 / 256 = d2 + 256 * d3 + 65536 * d4 + 16777216 * d5 := by omega
  have f1 : x / 256 = d1 + 256 * d2 + 65536 * d3 + 16777216 * d4 + 4294967296 * d5 := by omega
  have f0 : x = d0 + 256 * d1 + 65536 * d2 + 16777216 * d3 + 4294967296 * d4 + 1099511627776 * d5 := by omega
  have y1 : x + x / 256 = (d0 + d1) + 256 * (d1 + d2) + 65536 * ((d2 + d3) + 256 * (d3 + d4) + 65536 * (d4 + d5) + 16777216 * d5) := by rw [f1]; omega
  clear e0 e1 e2 e3 e4 e5 f5 f4 f3 f2 h6 h7 z6 f0 f1
  rw [y1]
  have y2 : ((d0 + d1) + 256 * (d1 + d2) + 65536 * ((d2 + d3) + 256 * (d3 + d4) + 65536 * (d4 + d5) + 16777216 * d5)) / 65536 = (d2 + d3) + 256 * (d3 + d4) + 65536 * (d4 + d5) + 16777216 * d5 := by omega
  rw [y2]
  have y3 : (d0 + d1) + 256 * (d1 + d2) + 65536 * ((d2 + d3) + 256 * (d3 + d4) + 65536 * (d4 + d5) + 16777216 * d5) + ((d2 + d3) + 256 * (d3 + d4) + 65536 * (d4 + d5) + 16777216 * d5) =
    ((d0 + d1 + d2 + d3) + 256 * (d1 + d2 + d3 + d4) + 65536 * (d2 + d3 + d4 + d5) + 16777216 * (d3 + d4 + d5)) + 4294967296 * ((d4 + d5) + 256 * d5) := by omega
  rw [y3]
  have y4 : (((d0 + d1 + d2 + d3) + 256 * (d1 + d2 + d3 + d4) + 65536 * (d2 + d3 + d4 + d5) + 16777216 * (d3 + d4 + d5)) + 4294967296 * ((d4 + d5) + 256 * d5)) / 4294967296 = (d4 + d5) + 256 * d5 := by omega
  rw [y4]
  clear y1 y2 y3 y4 hx
  omega
theorem dsum_cnt : ∀ k x, dsum 2 k x = cnt (fun j => tb x j) k
  | 0, _ => rfl
  | k + 1, x => by
    rw [dsum, dsum_cnt k (x / 2)]
    have : ∀ m, cnt (fun j => tb (x / 2) j) m + x % 2 = cnt (fun j => tb x j) (m + 1) := by
      intro m
      induction m with
      | zero =>
        have e0 : tb x 0 = decide (x % 2 = 1) := by unfold tb; rw [Nat.testBit_zero]
        simp only [cnt]
        have := Nat.mod_two_eq_zero_or_one x
        rcases this with e | e <;> simp [e, e0]
      | succ m ih =>
        rw [cnt, cnt, ← ih]
        have : tb (x / 2) m = tb x (m + 1) := by unfold tb; rw [Nat.testBit_succ]
        rw [this]; omega
    rw [← this k]; omega
/-- What the word holds in the end. -/
def onesF (x : Nat) : Nat := s6 (s5 (s4 (s3 8 (s2 16 (s1 32 x))))) % 128
theorem and_le_l (a b : Nat) : a &&& b ≤ a := Nat.and_le_left
theorem ones_bounds {x : Nat} (h : x < 1099511627776) : s1 32 x < 2199023255552 ∧ s2 16 (s1 32 x) < 4398046511104 ∧ s3 8 (s2 16 (s1 32 x)) < 8796093022208 := by
  have h1 : s1 32 x ≤ x / 2 + x := Nat.add_le_add Nat.and_le_left Nat.and_le_left
  have h2 : s2 16 (s1 32 x) ≤ s1 32 x / 4 + s1 32 x := Nat.add_le_add Nat.and_le_left Nat.and_le_left
  have h3 : s3 8 (s2 16 (s1 32 x)) ≤ s2 16 (s1 32 x) / 16 + s2 16 (s1 32 x) := Nat.and_le_left
  generalize s3 8 (s2 16 (s1 32 x)) = c at *
  generalize s2 16 (s1 32 x) = b at *
  generalize s1 32 x = a at *
  omega
theorem ones_law {x : Nat} (h : x < 1099511627776) : onesF x = cnt (fun j => tb x j) 64 := by
  have h1 := step1 32 x
  have h2 := step2 16 (s1 32 x) h1.2
  have h3 := step3 8 (s2 16 (s1 32 x)) h2.2
  unfold onesF
  have hb := (ones_bounds h).2.2
  rw [step4 _ h3.2 (Nat.lt_trans hb (by decide)), h3.1, h2.1, h1.1, dsum_cnt]
end Go.Proofs.Ytkmcmahpfhlkhaa
