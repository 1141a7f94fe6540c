/-
  Plain laws: primes that divide the order are multipliers (M. Hall). No program in sight. No condition.
-/
import Derived.Test.YtnmgambilpoeiaaFrob
import Derived.Test.YtnmgambilpoeiaaMultL
namespace Go.Proofs.Ytnmgambilpoeiaa
open Go.RowKit

theorem dif_zero {v : Nat} {xs : List Int} (h : IsSet v xs) : dif v xs 0 = xs.length := by
  unfold dif
  rw [← ch_sum h]
  refine sumL_congr fun x hx => ?_
  rw [List.mem_range] at hx
  rw [Nat.add_zero, Nat.mod_eq_of_lt hx]
  exact ind_sq _
theorem dif_sum {v : Nat} {xs : List Int} (h : IsSet v xs) : sumL (List.range v) (fun n => dif v xs n) = (xs.length : Int) * xs.length := by
  unfold dif
  rw [sumL_swap]
  have : ∀ x, x ∈ List.range v → sumL (List.range v) (fun n => ch xs x * ch xs ((x + n) % v)) = ch xs x * (xs.length : Int) := fun x _ => by
    rw [sumL_mul]
    congr 1
    rw [← ch_shift h x]
    exact sumL_congr fun n _ => by rw [Nat.add_comm]
  rw [sumL_congr this, sumL_mulr, ch_sum h]
theorem DLev.count {v l : Nat} {xs : List Int} (h : DLev v xs l) : (xs.length : Int) * xs.length = xs.length + l * ((v : Int) - 1) := by
  have hlo := h.set.lo
  obtain ⟨u, rfl⟩ : ∃ u, v = u + 1 := ⟨v - 1, by omega⟩
  rw [← dif_sum h.set, range_first, dif_zero h.set]
  have : ∀ j, j ∈ List.range u → dif (u + 1) xs (j + 1) = l := fun j hj => by
    rw [List.mem_range] at hj
    exact h.all (j + 1) (by omega) (by omega)
  rw [sumL_congr this, sumL_const, List.length_range]
  congr 2
  omega
/-- The set, as numbers. -/
def natL (xs : List Int) : List Nat := xs.map Int.toNat
theorem natL_len (xs : List Int) : (natL xs).length = xs.length := by simp [natL]
theorem natL_sum {v : Nat} {xs : List Int} (h : IsSet v xs) (F : Nat → Int) : sumL (natL xs) F = sumL (List.range v) (fun y => ch xs y * F y) := by
  unfold natL
  rw [sumL_map, set_sum h (fun a => F a.toNat)]
  exact sumL_congr fun y _ => by rw [Int.toNat_natCast]
/-- How often a number is p times a member, and back by a member. -/
def hE (v p : Nat) (xs : List Int) (x : Nat) : Int := sumL (natL xs) (fun a => ch xs ((x + p * a) % v))
theorem hE_cong {v l p : Nat} {xs : List Int} (h : DLev v xs l) (hp : Prm p) (hpn : (p : Int) ∣ (xs.length : Int) - l) (x : Nat) : (p : Int) ∣ hE v p xs x - l := by
  have hlo := h.set.lo
  have hA : ∀ y, (p : Int) ∣ sumL (natL xs) (fun a => ch xs ((y + a) % v)) - (l : Int) := fun y => by
    have e : sumL (natL xs) (fun a => ch xs ((y + a) % v)) = dif v xs (y % v) := by
      rw [natL_sum h.set (fun a => ch xs ((y + a) % v))]
      refine sumL_congr fun z _ => ?_
      rw [Nat.add_mod_mod, Nat.add_comm]
    rw [e]
    by_cases h0 : y % v = 0
    · rw [h0, dif_zero h.set]; exact hpn
    · rw [h.all _ (by omega) (Nat.mod_lt _ (by omega))]; simp
  have h2p := hp.1
  obtain ⟨q, rfl⟩ : ∃ q, p = q + 1 := ⟨p - 1, by omega⟩
  have h1 := frob hp (fun z => ch xs (z % v)) (natL xs) x
  have h2 := pw_const (S := natL xs) (F := fun y => sumL (natL xs) (fun a => ch xs ((y + a) % v))) hA q x
  rw [pw_inner (natL xs) (fun z => ch xs (z % v)) q x, natL_len] at h2
  have h3 := fermat hp xs.length
  have h4 : ((q + 1 : Nat) : Int) ∣ ((xs.length : Int) - l) * (xs.length : Int) ^ q := Int.dvd_trans hpn (Int.dvd_mul_right _ _)
  rw [Int.pow_succ, Int.mul_comm ((xs.length : Int) ^ q)] at h3
  rw [Int.sub_mul] at h4
  unfold hE
  have h5 := Int.dvd_add (Int.dvd_sub h2 h1) (Int.dvd_add (Int.dvd_sub h3 h4) hpn)
  generalize (xs.length : Int) * (xs.length : Int) ^ q = X at *
  generalize (l : Int) * (xs.length : Int) ^ q = Y at *
  generalize pw (natL xs) (q + 1) (fun z => ch xs (z % v)) x = Z at *
  generalize sumL (natL xs) (fun a => ch xs ((x + (q + 1) * a) % v)) = W at *
  have e : Z - Y - (Z - W) + (X - (xs.length : Int) - (X - Y) + ((xs.length : Int) - l)) = W - l := by omega
  rw [e] at h5; exact h5
theorem hE_nonneg (v p : Nat) (xs : List Int) (x : Nat) : 0 ≤ hE v p xs x := sumL_nonneg fun _ _ => ind_nonneg _
theorem hE_lo {v l p : Nat} {xs : List Int} (h : DLev v xs l) (hp : Prm p) (hpl : l < p) (hpn : (p : Int) ∣ (xs.length : Int) - l) (x : Nat) : (l : Int) ≤ hE v p xs x := by
  obtain ⟨c, hc⟩ := hE_cong h hp hpn x
  have h0 := hE_nonneg v p xs x
  refine Classical.byContradiction fun hn => ?_
  have hc0 : c ≤ -1 := by
    refine Classical.byContradiction fun hc1 => ?_
    have := Int.mul_nonneg (show (0 : Int) ≤ p by omega) (show 0 ≤ c by omega)
    omega
  have := Int.mul_le_mul_of_nonneg_left hc0 (show (0 : Int) ≤ p by omega)
  omega
theorem hE_sum {v p : Nat} {xs : List Int} (h : IsSet v xs) : sumL (List.range v) (fun x => hE v p xs x) = (xs.length : Int) * xs.length := by
  unfold hE
  rw [sumL_swap]
  have : ∀ a, a ∈ natL xs → sumL (List.range v) (fun x => ch xs ((x + p * a) % v)) = (xs.length : Int) := fun a _ => ch_shift h (p * a)
  rw [sumL_congr this, sumL_const, natL_len]
theorem hE_pair {v l p : Nat} {xs : List Int} (h : DLev v xs l) (hg : Nat.gcd p v = 1) {a b : Nat} (ha : a < v) (hb : b < v) :
    sumL (List.range v) (fun x => ch xs ((x + p * a) % v) * ch xs ((x + p * b) % v)) = l + ind (b == a) * ((xs.length : Int) - l) := by
  have hv : 0 < v := by omega
  have hA : p * a % v < v := Nat.mod_lt _ hv
  have hB : p * b % v < v := Nat.mod_lt _ hv
  have hinj := mov_inj (v := v) (g := p) (s := 0) hg a b ha hb
  unfold movF at hinj
  rw [Nat.add_zero, Nat.add_zero, Nat.mul_comm a, Nat.mul_comm b] at hinj
  have e : sumL (List.range v) (fun x => ch xs ((x + p * a) % v) * ch xs ((x + p * b) % v)) = dif v xs ((p * b % v + v - p * a % v) % v) := by
    unfold dif
    rw [← perm_sum (v := v) (π := fun x => (x + p * a) % v) (fun x _ => Nat.mod_lt _ hv) shift_inj (fun z => ch xs z * ch xs ((z + (p * b % v + v - p * a % v) % v) % v))]
    refine sumL_congr fun x _ => ?_
    have : ((x + p * a) % v + (p * b % v + v - p * a % v) % v) % v = (x + p * b) % v := by
      have e1 : x + p * a + (p * b % v + v - p * a % v) = x + p * b % v + v * (p * a / v + 1) := by
        have := Nat.div_add_mod (p * a) v
        rw [Nat.mul_add, Nat.mul_one]; omega
      rw [← Nat.add_mod, e1, Nat.add_mul_mod_self_left, Nat.add_mod_mod]
    rw [this]
  rw [e]
  by_cases hab : a = b
  · subst hab
    rw [show p * a % v + v - p * a % v = v by omega, Nat.mod_self, dif_zero h.set]
    simp [ind]; omega
  · have hne : p * a % v ≠ p * b % v := fun hc => hab (hinj hc)
    have hd : (p * b % v + v - p * a % v) % v ≠ 0 := by
      intro hc
      by_cases hlt : p * a % v ≤ p * b % v
      · rw [show p * b % v + v - p * a % v = (p * b % v - p * a % v) + v by omega, Nat.add_mod_right, Nat.mod_eq_of_lt (by omega)] at hc; omega
      · rw [Nat.mod_eq_of_lt (by omega)] at hc; omega
    rw [h.all _ (by omega) (Nat.mod_lt _ hv)]
    have : (b == a) = false := by simp; omega
    rw [this, ind_false]; omega
theorem hE_sq {v l p : Nat} {xs : List Int} (h : DLev v xs l) (hg : Nat.gcd p v = 1) :
    sumL (List.range v) (fun x => hE v p xs x * hE v p xs x) = l * ((xs.length : Int) * xs.length) + ((xs.length : Int) - l) * xs.length := by
  have e0 : ∀ x, hE v p xs x = sumL (List.range v) (fun a => ch xs a * ch xs ((x + p * a) % v)) := fun x => natL_sum h.set _
  have e1 : ∀ x, x ∈ List.range v → hE v p xs x * hE v p xs x = sumL (List.range v) (fun a => sumL (List.range v) (fun b => ch xs a * ch xs b * (ch xs ((x + p * a) % v) * ch xs ((x + p * b) % v)))) := fun x _ => by
    rw [e0, sumL_sq]
    refine sumL_congr fun a _ => sumL_congr fun b _ => ?_
    ac_rfl
  rw [sumL_congr e1, sumL_swap]
  have e2 : ∀ a, a ∈ List.range v → sumL (List.range v) (fun x => sumL (List.range v) (fun b => ch xs a * ch xs b * (ch xs ((x + p * a) % v) * ch xs ((x + p * b) % v)))) = ch xs a * (l * (xs.length : Int)) + ch xs a * ((xs.length : Int) - l) := fun a ha => by
    rw [List.mem_range] at ha
    rw [sumL_swap]
    have e3 : ∀ b, b ∈ List.range v → sumL (List.range v) (fun x => ch xs a * ch xs b * (ch xs ((x + p * a) % v) * ch xs ((x + p * b) % v))) = ch xs a * (l * ch xs b) + ch xs a * (((xs.length : Int) - l) * (ind (b == a) * ch xs b)) := fun b hb => by
      rw [List.mem_range] at hb
      rw [sumL_mul, hE_pair h hg ha hb, Int.mul_add, Int.mul_assoc, Int.mul_comm (ch xs b), Int.mul_assoc, Int.mul_comm (ch xs b), Int.mul_comm (ind _), Int.mul_assoc]
    rw [sumL_congr e3, sumL_add, sumL_mul, sumL_mul, sumL_mul, sumL_mul, ch_sum h.set, sum_one (fun y => ch xs y) ha]
    congr 1
    rw [← Int.mul_assoc, Int.mul_comm (ch xs a), Int.mul_assoc]
    have : ch xs a * ch xs a = ch xs a := ind_sq _
    rw [this, Int.mul_comm]
  rw [sumL_congr e2, sumL_add, sumL_mulr, sumL_mulr, ch_sum h.set]
  rw [← Int.mul_assoc, ← Int.mul_assoc, Int.mul_comm (xs.length : Int) l, Int.mul_comm (xs.length : Int) ((xs.length : Int) - l)]
/-- Numbers of which the sum's square is the sum of squares: one is the sum. -/
theorem one_all {v : Nat} {F : Nat → Int} {N : Int} (h0 : ∀ x, x < v → 0 ≤ F x) (h1 : sumL (List.range v) F = N) (h2 : sumL (List.range v) (fun x => F x * F x) = N * N) (hN : 0 < N) : ∃ x, x < v ∧ F x = N := by
  have hle : ∀ x, x < v → F x ≤ N := fun x hx => by
    rw [← h1, ← sum_one F hx]
    refine sumL_le fun y hy => ?_
    rw [List.mem_range] at hy
    have := h0 y hy
    cases e : (y == x)
    · rw [ind_false]; omega
    · rw [ind_true]; omega
  have h3 : sumL (List.range v) (fun x => N * F x - F x * F x) = 0 := by rw [sumL_sub, sumL_mul, h1, h2]; omega
  have h4 := sumL_null (fun x hx => by
    rw [List.mem_range] at hx
    have := Int.mul_nonneg (h0 x hx) (show 0 ≤ N - F x by have := hle x hx; omega)
    rw [Int.mul_sub, Int.mul_comm (F x) N] at this; exact this) h3
  refine Classical.byContradiction fun hno => ?_
  have h5 : ∀ x, x ∈ List.range v → F x = 0 := fun x hx => by
    have e := h4 x hx
    rw [List.mem_range] at hx
    rw [← Int.sub_mul] at e
    rcases Int.mul_eq_zero.1 e with e | e
    · exact absurd ⟨x, hx, by omega⟩ hno
    · exact e
  rw [sumL_congr h5, sumL_zero] at h1
  omega
theorem ch_one {xs : List Int} {x : Nat} (h : ch xs x = 1) : mem xs (x : Int) = true := by
  unfold ch at h
  cases e : mem xs (x : Int)
  · rw [e] at h; cases h
  · rfl
/-- M. Hall's multipliers. -/
theorem hall_mult {v l p : Nat} {xs : List Int} (h : DLev v xs l) (hv : 2 ≤ v) (hp : Prm p) (hpl : l < p) (hpn : (p : Int) ∣ (xs.length : Int) - l) (hle : (p : Int) ≤ (xs.length : Int) - l) (hpv : ¬ p ∣ v) : mulT v xs (p % v) = true := by
  have hg : Nat.gcd p v = 1 := hp.coprime hpv
  have hg2 : Nat.gcd (p % v) v = 1 := by rw [← Nat.gcd_rec, Nat.gcd_comm]; exact hg
  have h1 : 1 ≤ p % v := by
    refine Classical.byContradiction fun hc => ?_
    rw [show p % v = 0 by omega, Nat.gcd_zero_left] at hg2
    omega
  have hp2 := hp.1
  have hcount := h.count
  obtain ⟨K, hK⟩ : ∃ K : Int, K = xs.length := ⟨_, rfl⟩
  have hF1 : sumL (List.range v) (fun x => hE v p xs x - l) = K - l := by
    rw [sumL_sub, hE_sum h.set, sumL_const, List.length_range, hcount, ← hK, Int.mul_sub]; omega
  have hF2 : sumL (List.range v) (fun x => (hE v p xs x - l) * (hE v p xs x - l)) = (K - l) * (K - l) := by
    have e : ∀ x, x ∈ List.range v → (hE v p xs x - l) * (hE v p xs x - l) = hE v p xs x * hE v p xs x - (2 * (l : Int)) * hE v p xs x + (l : Int) * l := fun x _ => by
      generalize hE v p xs x = A
      rw [Int.sub_mul, Int.mul_sub, Int.mul_sub, Int.mul_comm A l, Int.mul_assoc]; omega
    rw [sumL_congr e, sumL_add, sumL_sub, sumL_mul, hE_sq h hg, hE_sum h.set, sumL_const, List.length_range, ← hK]
    rw [← hK] at hcount
    have e1 : (l : Int) * (K * K) = (l : Int) * K + (l : Int) * l * v - (l : Int) * l := by
      rw [hcount, Int.mul_add, ← Int.mul_assoc, Int.mul_sub]; omega
    rw [Int.sub_mul, Int.sub_mul, Int.mul_sub, Int.mul_sub, Int.mul_assoc 2, Int.mul_comm K l]
    omega
  obtain ⟨x0, hx0, hE0⟩ := one_all (fun x _ => by have := hE_lo h hp hpl hpn x; omega) hF1 hF2 (by omega)
  have hEk : hE v p xs x0 = K := by omega
  have hin : ∀ y, y < v → mem xs (y : Int) = true → mem xs (((x0 + p * y) % v : Nat) : Int) = true := by
    have e : sumL (List.range v) (fun y => ch xs y - ch xs y * ch xs ((x0 + p * y) % v)) = 0 := by
      rw [sumL_sub, ch_sum h.set, ← natL_sum h.set (fun a => ch xs ((x0 + p * a) % v))]
      unfold hE at hEk
      omega
    have h0 := sumL_null (fun y _ => by
      have h1 := ind_nonneg (mem xs (y : Int))
      have h2 := ind_le (mem xs (((x0 + p * y) % v : Nat) : Int))
      have := Int.mul_le_mul_of_nonneg_left h2 h1
      unfold ch; omega) e
    intro y hy hm
    have e2 := h0 y (List.mem_range.2 hy)
    have e3 : ch xs y = 1 := by unfold ch; rw [hm]; rfl
    rw [e3] at e2
    exact ch_one (by omega)
  have hsv : (v - x0) % v < v := Nat.mod_lt _ (by omega)
  refine mulT_hit (s := (v - x0) % v) h1 hg2 hsv ?_
  rw [eqI_iff]
  have g1 : Nat.gcd 1 v = 1 := Nat.gcd_one_left _
  have sA := mov_set (s := (v - x0) % v) h.set g1
  have sB := mov_set (s := 0) h.set hg2
  rw [mov_pick h.set g1, mov_pick (s := 0) h.set hg2]
  have hsub : ∀ y, y < v → mem (movL v (p % v) 0 xs) (y : Int) = true → mem (movL v 1 ((v - x0) % v) xs) (y : Int) = true := fun y hy hm => by
    obtain ⟨x, hx, ex⟩ := perm_onto (π := movF v (p % v) 0) (fun x _ => Nat.mod_lt _ (by omega)) (mov_inj hg2) hy
    rw [← ex, mov_mem h.set hg2 hx] at hm
    have hz := hin x hx hm
    have hzv : (x0 + p * x) % v < v := Nat.mod_lt _ (by omega)
    have ez : movF v 1 ((v - x0) % v) ((x0 + p * x) % v) = y := by
      rw [← ex]
      unfold movF
      rw [Nat.mul_one, ← Nat.add_mod, Nat.add_zero, Nat.mul_mod_mod, show x0 + p * x + (v - x0) = p * x + v by omega, Nat.add_mod_right, Nat.mul_comm]
    rw [← ez, mov_mem h.set g1 hzv]; exact hz
  have e : sumL (List.range v) (fun y => ch (movL v 1 ((v - x0) % v) xs) y - ch (movL v (p % v) 0 xs) y) = 0 := by
    rw [sumL_sub, ch_sum sA, ch_sum sB, mov_len, mov_len]; omega
  have h0 := sumL_null (fun y hy => by
    rw [List.mem_range] at hy
    have := hsub y hy
    unfold ch
    cases e1 : mem (movL v (p % v) 0 xs) (y : Int)
    · have := ind_nonneg (mem (movL v 1 ((v - x0) % v) xs) (y : Int)); rw [ind_false]; omega
    · rw [this e1]; decide) e
  refine pickL_congr fun y hy => ?_
  have e2 := h0 y (List.mem_range.2 hy)
  unfold ch at e2
  cases e3 : mem (movL v 1 ((v - x0) % v) xs) (y : Int) <;> cases e4 : mem (movL v (p % v) 0 xs) (y : Int)
  · rfl
  · rw [e3, e4] at e2; cases e2
  · rw [e3, e4] at e2; cases e2
  · rfl
end Go.Proofs.Ytnmgambilpoeiaa
