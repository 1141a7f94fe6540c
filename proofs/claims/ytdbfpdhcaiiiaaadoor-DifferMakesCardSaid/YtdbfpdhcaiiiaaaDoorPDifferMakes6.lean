/-
  Plain words: a set's multipliers. No program in sight. No condition.
  Plain laws: primes that divide the order are multipliers (M. Hall). No program in sight. No condition.
  Plain laws: what is developed is a design of level two. No program in sight. No condition.
  Contract: differ.Develop, of a set. No condition.
-/
import Derived.Test.YtdbfpdhcaiiiaaaDoorPDifferMakes4
import Derived.Test.YtdbfpdhcaiiiaaaDoorPDifferMakes2
import Derived.Test.YtdbfpdhcaiiiaaaDoorPDifferMakes5
import Derived.BigRegion
import Derived.Deep.AppendLies
import Derived.Deep.OwnRows
import Derived.Deep.RegionLaw
import Derived.Test.YtdbfpdhcaiiiaaaDoorPDifferMakes3
namespace Go.Proofs.YtdbfpdhcaiiiaaaDoor
open Go.RowKit

/-- Is the set, times t, among the first s of those that are moved? -/
def anyS (v : Nat) (xs : List Int) (t : Nat) : Nat → Bool
  | 0 => false
  | s + 1 => anyS v xs t s || eqI (movL v 1 s xs) (movL v t 0 xs)
def mulT (v : Nat) (xs : List Int) (t : Nat) : Bool := decide (1 ≤ t ∧ Nat.gcd t v = 1) && anyS v xs t v
def multL (v : Nat) (xs : List Int) : List Int := pickL (mulT v xs) v
theorem eqI_comm (xs ys : List Int) : eqI xs ys = eqI ys xs := by unfold eqI; exact decide_eq_decide.2 ⟨Eq.symm, Eq.symm⟩
theorem anyS_next {v : Nat} {xs : List Int} {t s : Nat} (h : anyS v xs t s = false) : anyS v xs t (s + 1) = eqI (movL v 1 s xs) (movL v t 0 xs) := by rw [anyS, h]; rfl
theorem anyS_up {v : Nat} {xs : List Int} {t : Nat} : ∀ {m s : Nat}, anyS v xs t s = true → s ≤ m → anyS v xs t m = true
  | 0, s, h, hs => by obtain rfl : s = 0 := by omega
                      exact h
  | m + 1, s, h, hs => by
    by_cases e : s = m + 1
    · subst e; exact h
    · rw [anyS, anyS_up h (by omega)]; rfl
theorem mulT_hit {v : Nat} {xs : List Int} {t s : Nat} (h1 : 1 ≤ t) (hg : Nat.gcd t v = 1) (hs : s < v) (h : eqI (movL v 1 s xs) (movL v t 0 xs) = true) : mulT v xs t = true := by
  unfold mulT
  have : anyS v xs t (s + 1) = true := by rw [anyS, h]; simp
  rw [anyS_up this hs]; simp [h1, hg]
theorem mulT_all {v : Nat} {xs : List Int} {t : Nat} (h1 : 1 ≤ t) (hg : Nat.gcd t v = 1) : mulT v xs t = anyS v xs t v := by unfold mulT; simp [h1, hg]
theorem mulT_gcd {v : Nat} {xs : List Int} {t : Nat} (hg : Nat.gcd t v ≠ 1) : mulT v xs t = false := by unfold mulT; simp [hg]
theorem mulT_one (v : Nat) (xs : List Int) : pickL (mulT v xs) 1 = [] := by rw [pickL_no (by unfold mulT; simp)]; rfl
end Go.Proofs.YtdbfpdhcaiiiaaaDoor

namespace Go.Proofs.YtdbfpdhcaiiiaaaDoor
open Go.RowKit

theorem dif_zero {v : Nat} {xs : List Int} (h : IsSet v xs) : dif v xs 0 = xs.length := by
  unfold dif
  rw [← ch_sum h]
  refine sumL_congr fun x hx => ?_
  rw [List.mem_range] at hx
  rw [Nat.add_zero, Nat.mod_eq_of_lt hx]
  exact ind_sq _
theorem dif_sum {v : Nat} {xs : List Int} (h : IsSet v xs) : sumL (List.range v) (fun n => dif v xs n) = (xs.length : Int) * xs.length := by
  unfold dif
  rw [sumL_swap]
  have : ∀ x, x ∈ List.range v → sumL (List.range v) (fun n => ch xs x * ch xs ((x + n) % v)) = ch xs x * (xs.length : Int) := fun x _ => by
    rw [sumL_mul]
    congr 1
    rw [← ch_shift h x]
    exact sumL_congr fun n _ => by rw [Nat.add_comm]
  rw [sumL_congr this, sumL_mulr, ch_sum h]
theorem DLev.count {v l : Nat} {xs : List Int} (h : DLev v xs l) : (xs.length : Int) * xs.length = xs.length + l * ((v : Int) - 1) := by
  have hlo := h.set.lo
  obtain ⟨u, rfl⟩ : ∃ u, v = u + 1 := ⟨v - 1, by omega⟩
  rw [← dif_sum h.set, range_first, dif_zero h.set]
  have : ∀ j, j ∈ List.range u → dif (u + 1) xs (j + 1) = l := fun j hj => by
    rw [List.mem_range] at hj
    exact h.all (j + 1) (by omega) (by omega)
  rw [sumL_congr this, sumL_const, List.length_range]
  congr 2
  omega
/-- The set, as numbers. -/
def natL (xs : List Int) : List Nat := xs.map Int.toNat
theorem natL_len (xs : List Int) : (natL xs).length = xs.length := by simp [natL]
theorem natL_sum {v : Nat} {xs : List Int} (h : IsSet v xs) (F : Nat → Int) : sumL (natL xs) F = sumL (List.range v) (fun y => ch xs y * F y) := by
  unfold natL
  rw [sumL_map, set_sum h (fun a => F a.toNat)]
  exact sumL_congr fun y _ => by rw [Int.toNat_natCast]
/-- How often a number is p times a member, and back by a member. -/
def hE (v p : Nat) (xs : List Int) (x : Nat) : Int := sumL (natL xs) (fun a => ch xs ((x + p * a) % v))
theorem hE_cong {v l p : Nat} {xs : List Int} (h : DLev v xs l) (hp : Prm p) (hpn : (p : Int) ∣ (xs.length : Int) - l) (x : Nat) : (p : Int) ∣ hE v p xs x - l := by
  have hlo := h.set.lo
  have hA : ∀ y, (p : Int) ∣ sumL (natL xs) (fun a => ch xs ((y + a) % v)) - (l : Int) := fun y => by
    have e : sumL (natL xs) (fun a => ch xs ((y + a) % v)) = dif v xs (y % v) := by
      rw [natL_sum h.set (fun a => ch xs ((y + a) % v))]
      refine sumL_congr fun z _ => ?_
      rw [Nat.add_mod_mod, Nat.add_comm]
    rw [e]
    by_cases h0 : y % v = 0
    · rw [h0, dif_zero h.set]; exact hpn
    · rw [h.all _ (by omega) (Nat.mod_lt _ (by omega))]; simp
  have h2p := hp.1
  obtain ⟨q, rfl⟩ : ∃ q, p = q + 1 := ⟨p - 1, by omega⟩
  have h1 := frob hp (fun z => ch xs (z % v)) (natL xs) x
  have h2 := pw_const (S := natL xs) (F := fun y => sumL (natL xs) (fun a => ch xs ((y + a) % v))) hA q x
  rw [pw_inner (natL xs) (fun z => ch xs (z % v)) q x, natL_len] at h2
  have h3 := fermat hp xs.length
  have h4 : ((q + 1 : Nat) : Int) ∣ ((xs.length : Int) - l) * (xs.length : Int) ^ q := Int.dvd_trans hpn (Int.dvd_mul_right _ _)
  rw [Int.pow_succ, Int.mul_comm ((xs.length : Int) ^ q)] at h3
  rw [Int.sub_mul] at h4
  unfold hE
  have h5 := Int.dvd_add (Int.dvd_sub h2 h1) (Int.dvd_add (Int.dvd_sub h3 h4) hpn)
  generalize (xs.length : Int) * (xs.length : Int) ^ q = X at *
  generalize (l : Int) * (xs.length : Int) ^ q = Y at *
  generalize pw (natL xs) (q + 1) (fun z => ch xs (z % v)) x = Z at *
  generalize sumL (natL xs) (fun a => ch xs ((x + (q + 1) * a) % v)) = W at *
  have e : Z - Y - (Z - W) + (X - (xs.length : Int) - (X - Y) + ((xs.length : Int) - l)) = W - l := by omega
  rw [e] at h5; exact h5
theorem hE_nonneg (v p : Nat) (xs : List Int) (x : Nat) : 0 ≤ hE v p xs x := sumL_nonneg fun _ _ => ind_nonneg _
theorem hE_lo {v l p : Nat} {xs : List Int} (h : DLev v xs l) (hp : Prm p) (hpl : l < p) (hpn : (p : Int) ∣ (xs.length : Int) - l) (x : Nat) : (l : Int) ≤ hE v p xs x := by
  obtain ⟨c, hc⟩ := hE_cong h hp hpn x
  have h0 := hE_nonneg v p xs x
  refine Classical.byContradiction fun hn => ?_
  have hc0 : c ≤ -1 := by
    refine Classical.byContradiction fun hc1 => ?_
    have := Int.mul_nonneg (show (0 : Int) ≤ p by omega) (show 0 ≤ c by omega)
    omega
  have := Int.mul_le_mul_of_nonneg_left hc0 (show (0 : Int) ≤ p by omega)
  omega
theorem hE_sum {v p : Nat} {xs : List Int} (h : IsSet v xs) : sumL (List.range v) (fun x => hE v p xs x) = (xs.length : Int) * xs.length := by
  unfold hE
  rw [sumL_swap]
  have : ∀ a, a ∈ natL xs → sumL (List.range v) (fun x => ch xs ((x + p * a) % v)) = (xs.length : Int) := fun a _ => ch_shift h (p * a)
  rw [sumL_congr this, sumL_const, natL_len]
theorem hE_pair {v l p : Nat} {xs : List Int} (h : DLev v xs l) (hg : Nat.gcd p v = 1) {a b : Nat} (ha : a < v) (hb : b < v) :
    sumL (List.range v) (fun x => ch xs ((x + p * a) % v) * ch xs ((x + p * b) % v)) = l + ind (b == a) * ((xs.length : Int) - l) := by
  have hv : 0 < v := by omega
  have hA : p * a % v < v := Nat.mod_lt _ hv
  have hB : p * b % v < v := Nat.mod_lt _ hv
  have hinj := mov_inj (v := v) (g := p) (s := 0) hg a b ha hb
  unfold movF at hinj
  rw [Nat.add_zero, Nat.add_zero, Nat.mul_comm a, Nat.mul_comm b] at hinj
  have e : sumL (List.range v) (fun x => ch xs ((x + p * a) % v) * ch xs ((x + p * b) % v)) = dif v xs ((p * b % v + v - p * a % v) % v) := by
    unfold dif
    rw [← perm_sum (v := v) (π := fun x => (x + p * a) % v) (fun x _ => Nat.mod_lt _ hv) shift_inj (fun z => ch xs z * ch xs ((z + (p * b % v + v - p * a % v) % v) % v))]
    refine sumL_congr fun x _ => ?_
    have : ((x + p * a) % v + (p * b % v + v - p * a % v) % v) % v = (x + p * b) % v := by
      have e1 : x + p * a + (p * b % v + v - p * a % v) = x + p * b % v + v * (p * a / v + 1) := by
        have := Nat.div_add_mod (p * a) v
        rw [Nat.mul_add, Nat.mul_one]; omega
      rw [← Nat.add_mod, e1, Nat.add_mul_mod_self_left, Nat.add_mod_mod]
    rw [this]
  rw [e]
  by_cases hab : a = b
  · subst hab
    rw [show p * a % v + v - p * a % v = v by omega, Nat.mod_self, dif_zero h.set]
    simp [ind]; omega
  · have hne : p * a % v ≠ p * b % v := fun hc => hab (hinj hc)
    have hd : (p * b % v + v - p * a % v) % v ≠ 0 := by
      intro hc
      by_cases hlt : p * a % v ≤ p * b % v
      · rw [show p * b % v + v - p * a % v = (p * b % v - p * a % v) + v by omega, Nat.add_mod_right, Nat.mod_eq_of_lt (by omega)] at hc; omega
      · rw [Nat.mod_eq_of_lt (by omega)] at hc; omega
    rw [h.all _ (by omega) (Nat.mod_lt _ hv)]
    have : (b == a) = false := by simp; omega
    rw [this, ind_false]; omega
theorem hE_sq {v l p : Nat} {xs : List Int} (h : DLev v xs l) (hg : Nat.gcd p v = 1) :
    sumL (List.range v) (fun x => hE v p xs x * hE v p xs x) = l * ((xs.length : Int) * xs.length) + ((xs.length : Int) - l) * xs.length := by
  have e0 : ∀ x, hE v p xs x = sumL (List.range v) (fun a => ch xs a * ch xs ((x + p * a) % v)) := fun x => natL_sum h.set _
  have e1 : ∀ x, x ∈ List.range v → hE v p xs x * hE v p xs x = sumL (List.range v) (fun a => sumL (List.range v) (fun b => ch xs a * ch xs b * (ch xs ((x + p * a) % v) * ch xs ((x + p * b) % v)))) := fun x _ => by
    rw [e0, sumL_sq]
    refine sumL_congr fun a _ => sumL_congr fun b _ => ?_
    ac_rfl
  rw [sumL_congr e1, sumL_swap]
  have e2 : ∀ a, a ∈ List.range v → sumL (List.range v) (fun x => sumL (List.range v) (fun b => ch xs a * ch xs b * (ch xs ((x + p * a) % v) * ch xs ((x + p * b) % v)))) = ch xs a * (l * (xs.length : Int)) + ch xs a * ((xs.length : Int) - l) := fun a ha => by
    rw [List.mem_range] at ha
    rw [sumL_swap]
    have e3 : ∀ b, b ∈ List.range v → sumL (List.range v) (fun x => ch xs a * ch xs b * (ch xs ((x + p * a) % v) * ch xs ((x + p * b) % v))) = ch xs a * (l * ch xs b) + ch xs a * (((xs.length : Int) - l) * (ind (b == a) * ch xs b)) := fun b hb => by
      rw [List.mem_range] at hb
      rw [sumL_mul, hE_pair h hg ha hb, Int.mul_add, Int.mul_assoc, Int.mul_comm (ch xs b), Int.mul_assoc, Int.mul_comm (ch xs b), Int.mul_comm (ind _), Int.mul_assoc]
    rw [sumL_congr e3, sumL_add, sumL_mul, sumL_mul, sumL_mul, sumL_mul, ch_sum h.set, sum_one (fun y => ch xs y) ha]
    congr 1
    rw [← Int.mul_assoc, Int.mul_comm (ch xs a), Int.mul_assoc]
    have : ch xs a * ch xs a = ch xs a := ind_sq _
    rw [this, Int.mul_comm]
  rw [sumL_congr e2, sumL_add, sumL_mulr, sumL_mulr, ch_sum h.set]
  rw [← Int.mul_assoc, ← Int.mul_assoc, Int.mul_comm (xs.length : Int) l, Int.mul_comm (xs.length : Int) ((xs.length : Int) - l)]
/-- Numbers of which the sum's square is the sum of squares: one is the sum. -/
theorem one_all {v : Nat} {F : Nat → Int} {N : Int} (h0 : ∀ x, x < v → 0 ≤ F x) (h1 : sumL (List.range v) F = N) (h2 : sumL (List.range v) (fun x => F x * F x) = N * N) (hN : 0 < N) : ∃ x, x < v ∧ F x = N := by
  have hle : ∀ x, x < v → F x ≤ N := fun x hx => by
    rw [← h1, ← sum_one F hx]
    refine sumL_le fun y hy => ?_
    rw [List.mem_range] at hy
    have := h0 y hy
    cases e : (y == x)
    · rw [ind_false]; omega
    · rw [ind_true]; omega
  have h3 : sumL (List.range v) (fun x => N * F x - F x * F x) = 0 := by rw [sumL_sub, sumL_mul, h1, h2]; omega
  have h4 := sumL_null (fun x hx => by
    rw [List.mem_range] at hx
    have := Int.mul_nonneg (h0 x hx) (show 0 ≤ N - F x by have := hle x hx; omega)
    rw [Int.mul_sub, Int.mul_comm (F x) N] at this; exact this) h3
  refine Classical.byContradiction fun hno => ?_
  have h5 : ∀ x, x ∈ List.range v → F x = 0 := fun x hx => by
    have e := h4 x hx
    rw [List.mem_range] at hx
    rw [← Int.sub_mul] at e
    rcases Int.mul_eq_zero.1 e with e | e
    · exact absurd ⟨x, hx, by omega⟩ hno
    · exact e
  rw [sumL_congr h5, sumL_zero] at h1
  omega
theorem ch_one {xs : List Int} {x : Nat} (h : ch xs x = 1) : mem xs (x : Int) = true := by
  unfold ch at h
  cases e : mem xs (x : Int)
  · rw [e] at h; cases h
  · rfl
/-- M. Hall's multipliers. -/
theorem hall_mult {v l p : Nat} {xs : List Int} (h : DLev v xs l) (hv : 2 ≤ v) (hp : Prm p) (hpl : l < p) (hpn : (p : Int) ∣ (xs.length : Int) - l) (hle : (p : Int) ≤ (xs.length : Int) - l) (hpv : ¬ p ∣ v) : mulT v xs (p % v) = true := by
  have hg : Nat.gcd p v = 1 := hp.coprime hpv
  have hg2 : Nat.gcd (p % v) v = 1 := by rw [← Nat.gcd_rec, Nat.gcd_comm]; exact hg
  have h1 : 1 ≤ p % v := by
    refine Classical.byContradiction fun hc => ?_
    rw [show p % v = 0 by omega, Nat.gcd_zero_left] at hg2
    omega
  have hp2 := hp.1
  have hcount := h.count
  obtain ⟨K, hK⟩ : ∃ K : Int, K = xs.length := ⟨_, rfl⟩
  have hF1 : sumL (List.range v) (fun x => hE v p xs x - l) = K - l := by
    rw [sumL_sub, hE_sum h.set, sumL_const, List.length_range, hcount, ← hK, Int.mul_sub]; omega
  have hF2 : sumL (List.range v) (fun x => (hE v p xs x - l) * (hE v p xs x - l)) = (K - l) * (K - l) := by
    have e : ∀ x, x ∈ List.range v → (hE v p xs x - l) * (hE v p xs x - l) = hE v p xs x * hE v p xs x - (2 * (l : Int)) * hE v p xs x + (l : Int) * l := fun x _ => by
      generalize hE v p xs x = A
      rw [Int.sub_mul, Int.mul_sub, Int.mul_sub, Int.mul_comm A l, Int.mul_assoc]; omega
    rw [sumL_congr e, sumL_add, sumL_sub, sumL_mul, hE_sq h hg, hE_sum h.set, sumL_const, List.length_range, ← hK]
    rw [← hK] at hcount
    have e1 : (l : Int) * (K * K) = (l : Int) * K + (l : Int) * l * v - (l : Int) * l := by
      rw [hcount, Int.mul_add, ← Int.mul_assoc, Int.mul_sub]; omega
    rw [Int.sub_mul, Int.sub_mul, Int.mul_sub, Int.mul_sub, Int.mul_assoc 2, Int.mul_comm K l]
    omega
  obtain ⟨x0, hx0, hE0⟩ := one_all (fun x _ => by have := hE_lo h hp hpl hpn x; omega) hF1 hF2 (by omega)
  have hEk : hE v p xs x0 = K := by omega
  have hin : ∀ y, y < v → mem xs (y : Int) = true → mem xs (((x0 + p * y) % v : Nat) : Int) = true := by
    have e : sumL (List.range v) (fun y => ch xs y - ch xs y * ch xs ((x0 + p * y) % v)) = 0 := by
      rw [sumL_sub, ch_sum h.set, ← natL_sum h.set (fun a => ch xs ((x0 + p * a) % v))]
      unfold hE at hEk
      omega
    have h0 := sumL_null (fun y _ => by
      have h1 := ind_nonneg (mem xs (y : Int))
      have h2 := ind_le (mem xs (((x0 + p * y) % v : Nat) : Int))
      have := Int.mul_le_mul_of_nonneg_left h2 h1
      unfold ch; omega) e
    intro y hy hm
    have e2 := h0 y (List.mem_range.2 hy)
    have e3 : ch xs y = 1 := by unfold ch; rw [hm]; rfl
    rw [e3] at e2
    exact ch_one (by omega)
  have hsv : (v - x0) % v < v := Nat.mod_lt _ (by omega)
  refine mulT_hit (s := (v - x0) % v) h1 hg2 hsv ?_
  rw [eqI_iff]
  have g1 : Nat.gcd 1 v = 1 := Nat.gcd_one_left _
  have sA := mov_set (s := (v - x0) % v) h.set g1
  have sB := mov_set (s := 0) h.set hg2
  rw [mov_pick h.set g1, mov_pick (s := 0) h.set hg2]
  have hsub : ∀ y, y < v → mem (movL v (p % v) 0 xs) (y : Int) = true → mem (movL v 1 ((v - x0) % v) xs) (y : Int) = true := fun y hy hm => by
    obtain ⟨x, hx, ex⟩ := perm_onto (π := movF v (p % v) 0) (fun x _ => Nat.mod_lt _ (by omega)) (mov_inj hg2) hy
    rw [← ex, mov_mem h.set hg2 hx] at hm
    have hz := hin x hx hm
    have hzv : (x0 + p * x) % v < v := Nat.mod_lt _ (by omega)
    have ez : movF v 1 ((v - x0) % v) ((x0 + p * x) % v) = y := by
      rw [← ex]
      unfold movF
      rw [Nat.mul_one, ← Nat.add_mod, Nat.add_zero, Nat.mul_mod_mod, show x0 + p * x + (v - x0) = p * x + v by omega, Nat.add_mod_right, Nat.mul_comm]
    rw [← ez, mov_mem h.set g1 hzv]; exact hz
  have e : sumL (List.range v) (fun y => ch (movL v 1 ((v - x0) % v) xs) y - ch (movL v (p % v) 0 xs) y) = 0 := by
    rw [sumL_sub, ch_sum sA, ch_sum sB, mov_len, mov_len]; omega
  have h0 := sumL_null (fun y hy => by
    rw [List.mem_range] at hy
    have := hsub y hy
    unfold ch
    cases e1 : mem (movL v (p % v) 0 xs) (y : Int)
    · have := ind_nonneg (mem (movL v 1 ((v - x0) % v) xs) (y : Int)); rw [ind_false]; omega
    · rw [this e1]; decide) e
  refine pickL_congr fun y hy => ?_
  have e2 := h0 y (List.mem_range.2 hy)
  unfold ch at e2
  cases e3 : mem (movL v 1 ((v - x0) % v) xs) (y : Int) <;> cases e4 : mem (movL v (p % v) 0 xs) (y : Int)
  · rfl
  · rw [e3, e4] at e2; cases e2
  · rw [e3, e4] at e2; cases e2
  · rfl
end Go.Proofs.YtdbfpdhcaiiiaaaDoor

namespace Go.Proofs.YtdbfpdhcaiiiaaaDoor
open Go.RowKit

/-- What is developed. -/
def devL (v : Nat) (xs : List Int) : List (List Int) := rowsTo (fun i => movL v 1 i xs) v
theorem devL_len (v : Nat) (xs : List Int) : (devL v xs).length = v := rowsTo_len _ _
theorem devL_rx {v : Nat} {xs : List Int} {i : Nat} (h : i < v) : rx (devL v xs) i = movL v 1 i xs := rowsTo_rx _ h
theorem dev_ch {v : Nat} {xs : List Int} (h : IsSet v xs) {i x : Nat} (hi : i < v) (hx : x < v) : mem (movL v 1 i xs) (x : Int) = mem xs (((x + v - i) % v : Nat) : Int) := by
  have hz : (x + v - i) % v < v := Nat.mod_lt _ (by omega)
  have e : movF v 1 i ((x + v - i) % v) = x := by
    unfold movF
    rw [Nat.mul_one, Nat.mod_add_mod, show x + v - i + i = x + v by omega, Nat.add_mod_right, Nat.mod_eq_of_lt hx]
  rw [← mov_mem (s := i) h (Nat.gcd_one_left v) hz, e]
theorem back_inj {v x : Nat} : ∀ i j, i < v → j < v → (x + v - i) % v = (x + v - j) % v → i = j := by
  have key : ∀ i j, i < v → j < v → i ≤ j → (x + v - i) % v = (x + v - j) % v → i = j := by
    intro i j hi hj hij h
    have h2 := dvd_mod h (by omega)
    have := Nat.eq_zero_of_dvd_of_lt h2 (by omega)
    omega
  intro i j hi hj h
  rcases Nat.le_total i j with h4 | h4
  · exact key i j hi hj h4 h
  · exact (key j i hj hi h4 h.symm).symm
theorem dev_pair {v l : Nat} {xs : List Int} (h : DLev v xs l) {x y : Nat} (hx : x < v) (hy : y < v) (hne : x ≠ y) : lamP (devL v xs) [x, y] = l := by
  have hv : 0 < v := by omega
  have e0 : ((lamP (devL v xs) [x, y] : Nat) : Int) = sumL (List.range v) (fun i => ch xs ((x + v - i) % v) * ch xs ((y + v - i) % v)) := by
    rw [lamP_sum, devL_len]
    refine sumL_congr fun i hi => ?_
    rw [List.mem_range] at hi
    unfold holdP
    rw [devL_rx hi]
    simp only [List.all_cons, List.all_nil, Bool.and_true]
    rw [ind_and, dev_ch h.set hi hx, dev_ch h.set hi hy]; rfl
  have e1 : sumL (List.range v) (fun i => ch xs ((x + v - i) % v) * ch xs ((y + v - i) % v)) = dif v xs ((y + v - x) % v) := by
    unfold dif
    rw [← perm_sum (v := v) (π := fun i => (x + v - i) % v) (fun i _ => Nat.mod_lt _ hv) back_inj (fun z => ch xs z * ch xs ((z + (y + v - x) % v) % v))]
    refine sumL_congr fun i hi => ?_
    rw [List.mem_range] at hi
    have : ((x + v - i) % v + (y + v - x) % v) % v = (y + v - i) % v := by
      rw [← Nat.add_mod, show x + v - i + (y + v - x) = y + v - i + v by omega, Nat.add_mod_right]
    rw [this]
  have hd : (y + v - x) % v ≠ 0 := by
    intro hc
    by_cases hlt : x ≤ y
    · rw [show y + v - x = (y - x) + v by omega, Nat.add_mod_right, Nat.mod_eq_of_lt (by omega)] at hc; omega
    · rw [Nat.mod_eq_of_lt (by omega)] at hc; omega
  have := h.all _ (by omega) (Nat.mod_lt (y + v - x) hv)
  rw [← e1, ← e0] at this
  omega
theorem dev_lev {v l : Nat} {xs : List Int} (h : DLev v xs l) (h40 : v ≤ 40) (hk : 2 ≤ xs.length) : Lev v (devL v xs) 2 xs.length l := by
  have hlo := h.set.lo
  have hlen := inc_len h.set.rng h.set.inc (by omega)
  refine ⟨⟨by omega, by omega, by rw [devL_len]; omega, fun i hi => ?_⟩, by omega, by omega, by rw [devL_len]; omega, fun i hi => ?_, fun P h1 h2 h3 => ?_⟩
  · rw [devL_len] at hi
    rw [devL_rx hi]
    have := mov_set (s := i) h.set (Nat.gcd_one_left v)
    exact ⟨this.rng, this.inc⟩
  · rw [devL_len] at hi
    rw [devL_rx hi, mov_len]
  · match P, h1, h2, h3 with
    | [x, y], h1, h2, _ =>
      rw [List.nodup_cons] at h1
      exact dev_pair h (h2 x (by simp)) (h2 y (by simp)) (fun e => h1.1 (by simp [e]))
end Go.Proofs.YtdbfpdhcaiiiaaaDoor

namespace Go.Proofs.YtdbfpdhcaiiiaaaDoor
open Go.RowKit

set_option maxRecDepth 100000 in
theorem step_list {ops : Array Oper} {o : Oper} {a : Act} {w : World} {K : Act → World → Prop} {Q : Exit → Act → World → Prop} {E : Prop} (hgd : o.guard = none) (s x : Operand)
    (ho : o.op = .call { callee := .builtin .append, args := #[s, x], argTypes := #[45, 45] }) {base : Nat} {v : Value} {xss : List (List Int)} (hs : a.eval s = v) (hown : OwnL w base v xss)
    (g : Nat) {y : Value} {ys : List Int} (hy : Own w base 3 y ys) (hx : a.eval x = .slice (some ⟨g, 0, none⟩) 1 1) (hc : w.cell? ⟨g, 0, none⟩ = some y) (hl : xss.length < 1000000000) (hb : base ≤ w.heap.size)
    (h : ∀ v' w', OwnL w' base v' (xss ++ [ys]) → w.grownBy w' v.ownBlock → K (a.put o.dst v') w') : if Region.wanted o (yielded ops a.tmps) = true then Oper.wp Tryd.prog o a w K Q else E := by
  obtain ⟨i0, hi0, hz0, hz1, hz2⟩ := info_parts info_list
  obtain ⟨V, h1, h2⟩ := hown
  refine step_append_lies w hgd s x 45 ho base 22 i0 _ 1 24 Tryd.underlying45 hi0 hz0 hz1 hz2 rfl (by omega) v xss.length _ hs h1 ⟨g, 0, none⟩ 1 1 [y] hx rfl (news_one hc) (fun u hu => by simp at hu; subst hu; exact own_one hy)
    (by omega) (by unfold maxLen; omega) (by omega) hb _ rfl ?_
  intro gg cap w' q1 q2 _ _
  have kept : ∀ {u : Value} {zs : List Int}, Own w base 3 u zs → Own w' base 3 u zs := fun hu => World.ownsRow.kept hu q2 (own_apart (by decide) hu h1)
  refine h _ w' ⟨fun i => if i < xss.length then V i else y, ?_, fun i hi => ?_⟩ q2
  · rw [List.length_append]
    have e : (List.range (xss.length + [ys].length)).map (fun i => if i < xss.length then V i else y) = (List.range xss.length).map V ++ [y] := by
      rw [List.length_singleton, List.range_succ, List.map_append]
      congr 1
      · apply List.map_congr_left
        intro i hi
        rw [if_pos (List.mem_range.1 hi)]
      · simp
    rw [e]; exact q1
  · rw [List.length_append, List.length_singleton] at hi
    rw [rx_snoc]
    by_cases e : i < xss.length
    · rw [if_pos e]; simp only [if_pos e]; exact kept (h2 i e)
    · rw [if_neg e, if_pos (by omega)]; simp only [if_neg e]; exact kept hy

/-- The result, still empty; what is built (block bo). -/
structure DevRel (w wr : World) (bo : Nat) (p : Int) (v : Value) (yss : List (List Int)) : Prop where
  res : Arr wr w.heap.size 2 (fun j => if j = 0 then .int .i64 0 else .slice none 0 0)
  out : Arr wr bo 2 (fun j => if j = 0 then .int .i64 p else v)
  own : OwnL wr (bo + 1) v yss
  lo : w.heap.size < bo
  bel : Below w.heap.size w wr
theorem DevRel.next {w wr w' : World} {bo : Nat} {p : Int} {v : Value} {yss : List (List Int)} (h : DevRel w wr bo p v yss) (hb : Below wr.heap.size wr w') : DevRel w w' bo p v yss :=
  ⟨h.res.below hb, h.out.below hb, h.own.below hb, h.lo, belowTrans h.bel hb⟩
theorem DevRel.size {w wr : World} {bo : Nat} {p : Int} {v : Value} {yss : List (List Int)} (h : DevRel w wr bo p v yss) : bo + 1 ≤ wr.heap.size := h.out.lt
theorem DevRel.push {w w1 w2 : World} {bo : Nat} {p : Int} {v v' : Value} {yss zss : List (List Int)} (h : DevRel w w1 bo p v yss) (hO : OwnL w2 (bo + 1) v' zss) (hg : w1.grownBy w2 v.ownBlock) :
    DevRel w (w2.setCell ⟨bo, 1, none⟩ v') bo p v' zss := by
  have hlo := h.lo
  have hbl : ∀ k, v.ownBlock = some k → bo + 1 ≤ k := fun k hk => (h.own.block k hk).1
  have hsz := h.size
  have kp : ∀ {b : Nat} {f : Nat → Value}, b < bo + 1 → Arr w1 b 2 f → Arr w2 b 2 f := fun {b f} hb hA =>
    hA.kept (fun o => hg.cell_far ⟨b, o, none⟩ (Nat.lt_of_lt_of_le hb hsz) (fun e => by have := hbl b e.symm; omega)) (fun o => hg.frozen_far ⟨b, o, none⟩ (Nat.lt_of_lt_of_le hb hsz) (fun e => by have := hbl b e.symm; omega)) hg.size
  refine ⟨(kp (by omega) h.res).setOther (by show bo ≠ _; omega) _, ?_, hO.setFar (by show bo < _; omega) _, hlo, (h.bel.grown hg (by omega) (fun k hk => by have := hbl k hk; omega)).setCell (by show _ ≤ bo; omega) _⟩
  refine ((kp (by omega) h.out).set (show 1 < 2 by omega) v').congr fun j hj => ?_
  rcases j with _ | _ | j
  · rfl
  · rfl
  · omega
theorem DevRel.spot {w w1 w2 : World} {bo : Nat} {p : Int} {v : Value} {yss : List (List Int)} (h : DevRel w w1 bo p v yss) (hg : w1.grownBy w2 v.ownBlock) :
    w2.cell? ⟨bo, 1, none⟩ = some v ∧ w2.frozen? ⟨bo, 1, none⟩ = false := by
  have hbl : ∀ k, v.ownBlock = some k → bo + 1 ≤ k := fun k hk => (h.own.block k hk).1
  have hsz := h.size
  have hne : some bo ≠ v.ownBlock := fun e => by have := hbl bo e.symm; omega
  exact ⟨(hg.cell_far ⟨bo, 1, none⟩ hsz hne).trans (h.out.cell (show 1 < 2 by omega)), (hg.frozen_far ⟨bo, 1, none⟩ hsz hne).trans (h.out.free (show 1 < 2 by omega))⟩
theorem DevRel.late {w w1 : World} {t : TypeId} (hb : Below (w.alloc (.cells #[.int .i64 0, .slice none 0 0] t)).heap.size (w.alloc (.cells #[.int .i64 0, .slice none 0 0] t)) w1) (p : Int) :
    DevRel w (w1.alloc (.cells #[.int .i64 p, .slice none 0 0] t)) w1.heap.size p (.slice none 0 0) [] := by
  have hz := hb.size
  simp only [World.size_alloc] at hz
  exact ⟨((pair_new w _ _ _ _ rfl).below hb).alloc _, pair_new _ _ _ _ _ rfl, ownL_nil _ _, by omega,
    (((below_box w _).trans (hb.mono (by simp))).trans ((below_box _ _).mono (by omega)))⟩
/-- What is handed back. -/
def DevPost (n : Int) (yss : List (List Int)) (w : World) (e : Ending) (w' : World) : Prop := ∃ v, e = .returned (.tuple #[.agg #[.int .i64 n, v], .int .i64 0]) ∧ RowsAt w' v yss ∧ Below w.heap.size w w'
theorem DevRel.last {w wr : World} {bo : Nat} {p : Int} {v : Value} {yss : List (List Int)} (h : DevRel w wr bo p v yss) :
    Arr ((wr.setCell ⟨w.heap.size, 0, none⟩ (.int .i64 p)).setCell ⟨w.heap.size, 1, none⟩ v) w.heap.size 2 (fun j => if j = 0 then .int .i64 p else v) :=
  ((h.res.set (show 0 < 2 by omega) (.int .i64 p)).set (show 1 < 2 by omega) v).congr fun j hj => by
    rcases j with _ | _ | j
    · rfl
    · rfl
    · omega
theorem DevRel.done {w wr : World} {bo : Nat} {p : Int} {v : Value} {yss : List (List Int)} (h : DevRel w wr bo p v yss) (hl : yss.length ≤ 1000000000) (hr : ∀ i, i < yss.length → (rx yss i).length ≤ 1000000000) :
    DevPost p yss w (.returned (.tuple #[.agg ((List.range 2).map (fun j => if j = 0 then Value.int .i64 p else v)).toArray, .int .i64 0])) ((wr.setCell ⟨w.heap.size, 0, none⟩ (.int .i64 p)).setCell ⟨w.heap.size, 1, none⟩ v) := by
  have hlo := h.lo
  exact ⟨v, rfl, ((h.own.setFar (by show w.heap.size < _; omega) _).setFar (by show w.heap.size < _; omega) _).rowsAt hl hr, (h.bel.setCell (by show _ ≤ w.heap.size; omega) _).setCell (by show _ ≤ w.heap.size; omega) _⟩

set_option maxRecDepth 100000 in
set_option maxHeartbeats 4000000 in
theorem develop_any (n : Nat) (v : Value) (xs : List Int) (w : World) (h : IntsAt w v xs) (hS : IsSet n xs) (h40 : n ≤ 40) :
    Calls Tryd.prog 19 #[.int .i64 (n : Nat), v] w (DevPost n (devL n xs) w) := by
  have HV := Lib.hid h
  have hn1 := hS.lo
  have hl : (xs.length : Int) ≤ n := inc_len hS.rng hS.inc (by omega)
  have HBx := Lib.hid (below_box w (.cells #[.int .i64 0, .slice none 0 0] 47))
  have HC : Hid (Calls Tryd.prog 39 #[.int .i64 (n : Nat), v] (w.alloc (.cells #[.int .i64 0, .slice none 0 0] 47)) fun e w' => e = .returned (.int .i64 0) ∧ Below (w.alloc (.cells #[.int .i64 0, .slice none 0 0] 47)).heap.size (w.alloc (.cells #[.int .i64 0, .slice none 0 0] 47)) w') := by
    have := dcheck_any n v xs _ (HV.out.below HBx.out)
    rw [hS.fault] at this; exact this
  have HCh : Hid (∀ (s : Nat) w1, s ≤ 200 → IntsAt w1 v xs → Calls Tryd.prog 42 #[.int .i64 (n : Nat), v, .int .i64 1, .int .i64 (s : Nat)] w1 fun e w' => ∃ u, e = .returned u ∧ Own w' w1.heap.size 3 u (movL n 1 s xs) ∧ Below w1.heap.size w1 w') := fun s w1 hs hv => changed_any n 1 s v xs w1 hv hS (by omega) hs
  obtain ⟨a, c, rfl, _⟩ := h
  clear hS
  go_enter Tryd.func19, Tryd.ntmps19
  go_wp2_with fail
  refine (HC.out).mono ?_
  rintro e w1 ⟨rfl, hb⟩
  have HR0 := Lib.hid (DevRel.late hb n)
  have hzs := hb.size
  simp only [World.size_alloc] at hzs
  clear hb HC
  go_wp2_with fail
  go_loopw [22] (fun s wr => ∃ (k : Nat) (u : Value), k ≤ n ∧ s = .int .i64 k ∧ DevRel w wr w1.heap.size n u (rowsTo (fun i => movL n 1 i xs) k)) (fun s _ => n - (intOf s).toNat)
  case atStart => exact ⟨0, _, by omega, rfl, HR0.out⟩
  case round =>
    clear HR0
    obtain ⟨k, u, hk, rfl, hR⟩ := hrel
    obtain ⟨ua, uc, rfl⟩ := hR.own.shape
    have hkl := rowsTo_len (fun i => movL n 1 i xs) k
    rw [hkl] at hR
    have HR := Lib.hid hR
    have o0 := hR.out.cell (show 0 < 2 by omega); have o1 := hR.out.cell (show 1 < 2 by omega); have o2 := hR.out.free (show 1 < 2 by omega)
    have r0 := hR.res.cell (show 0 < 2 by omega); have r1 := hR.res.cell (show 1 < 2 by omega)
    have f0 := hR.res.free (show 0 < 2 by omega); have f1 := hR.res.free (show 1 < 2 by omega)
    have hsz := hR.size
    clear hR
    by_cases hlt : k < n
    · have hI := HV.out.below HR.out.bel
      have HI := Lib.hid hI
      have HRD : Hid (∀ m, DevRel w (wr.drewN m) w1.heap.size n (.slice ua k uc) (rowsTo (fun i => movL n 1 i xs) k)) := fun m => HR.out.next (below_D _ _)
      clear hI r0 r1 f0 f1 o0 o2
      go_wp2_with fail
      go_region_law (first
        | (refine step_list (by rfl) _ _ (by rfl) (by rfl) (HR2.out.own.below (below_box _ _)) w2.heap.size (HO2.out.alloc _) (by rfl) (World.cell?_alloc_new w2 _ _ 0) (by omega) (by simp; omega) ?_; intro v' w3 hown1 hgrow; obtain ⟨va, vc, rfl⟩ := hown1.shape; have HR3 := Lib.hid ((HR2.out.next (below_box _ _)).push hown1 hgrow); obtain ⟨y1, y2⟩ := (HR2.out.next (below_box _ _)).spot hgrow; clear hown1 hgrow)
        | (go_simp; refine (HCh.out k _ (by omega) (by exact HI.out)).mono ?_; rintro e w2 ⟨u2, rfl, hown, hb⟩; obtain ⟨ra, rl, rc, rfl⟩ := hown.shape; have HR2 : Hid (DevRel w w2 w1.heap.size n (.slice ua k uc) (rowsTo (fun i => movL n 1 i xs) k)) := (by first | exact HR.out.next hb | exact (HRD.out 1).next hb | exact (HRD.out 2).next hb | exact (HRD.out 3).next hb | exact (HRD.out 4).next hb | exact (HRD.out 5).next hb | exact (HRD.out 6).next hb); have HO2 := Lib.hid (hown.base hsz); have o1' := HR2.out.out.cell (show 1 < 2 by omega); have hsz2 := HR2.out.size; have hne2 : ¬ w1.heap.size = w2.heap.size := (by omega); have o3' := (World.cell?_alloc_old w2 (.cells #[.slice ra rl rc] 22) ⟨w1.heap.size, 1, none⟩ hne2).trans o1'; clear hown hb))
      all_goals
        rw [List.length_append, hkl] at HR3
        go_wp2_with fail
        go_roundw
        case rel => exact ⟨k + 1, _, by omega, by go_num, HR3.out⟩
        case measure => simp [intOf]; omega
    · obtain rfl : k = n := by omega
      go_wp2_with fail
      exact bodyPost_ret (results_pairT (p := 4) (u := 5) rfl HR.out.last Tryd.underlying47 rfl (by kernel_rfl) rfl) rfl
        (HR.out.done (by rw [rowsTo_len]; omega) (fun i hi => by rw [rowsTo_len] at hi; rw [rowsTo_rx _ hi, mov_len]; omega))
end Go.Proofs.YtdbfpdhcaiiiaaaDoor
