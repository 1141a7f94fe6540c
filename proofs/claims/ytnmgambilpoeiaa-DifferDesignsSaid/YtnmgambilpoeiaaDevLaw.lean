/-
  Plain laws: what is developed is a design of level two. No program in sight. No condition.
-/
import Derived.Test.YtnmgambilpoeiaaLevLaw
import Derived.Test.YtnmgambilpoeiaaMann
namespace Go.Proofs.Ytnmgambilpoeiaa
open Go.RowKit

/-- What is developed. -/
def devL (v : Nat) (xs : List Int) : List (List Int) := rowsTo (fun i => movL v 1 i xs) v
theorem devL_len (v : Nat) (xs : List Int) : (devL v xs).length = v := rowsTo_len _ _
theorem devL_rx {v : Nat} {xs : List Int} {i : Nat} (h : i < v) : rx (devL v xs) i = movL v 1 i xs := rowsTo_rx _ h
theorem dev_ch {v : Nat} {xs : List Int} (h : IsSet v xs) {i x : Nat} (hi : i < v) (hx : x < v) : mem (movL v 1 i xs) (x : Int) = mem xs (((x + v - i) % v : Nat) : Int) := by
  have hz : (x + v - i) % v < v := Nat.mod_lt _ (by omega)
  have e : movF v 1 i ((x + v - i) % v) = x := by
    unfold movF
    rw [Nat.mul_one, Nat.mod_add_mod, show x + v - i + i = x + v by omega, Nat.add_mod_right, Nat.mod_eq_of_lt hx]
  rw [← mov_mem (s := i) h (Nat.gcd_one_left v) hz, e]
theorem back_inj {v x : Nat} : ∀ i j, i < v → j < v → (x + v - i) % v = (x + v - j) % v → i = j := by
  have key : ∀ i j, i < v → j < v → i ≤ j → (x + v - i) % v = (x + v - j) % v → i = j := by
    intro i j hi hj hij h
    have h2 := dvd_mod h (by omega)
    have := Nat.eq_zero_of_dvd_of_lt h2 (by omega)
    omega
  intro i j hi hj h
  rcases Nat.le_total i j with h4 | h4
  · exact key i j hi hj h4 h
  · exact (key j i hj hi h4 h.symm).symm
theorem dev_pair {v l : Nat} {xs : List Int} (h : DLev v xs l) {x y : Nat} (hx : x < v) (hy : y < v) (hne : x ≠ y) : lamP (devL v xs) [x, y] = l := by
  have hv : 0 < v := by omega
  have e0 : ((lamP (devL v xs) [x, y] : Nat) : Int) = sumL (List.range v) (fun i => ch xs ((x + v - i) % v) * ch xs ((y + v - i) % v)) := by
    rw [lamP_sum, devL_len]
    refine sumL_congr fun i hi => ?_
    rw [List.mem_range] at hi
    unfold holdP
    rw [devL_rx hi]
    simp only [List.all_cons, List.all_nil, Bool.and_true]
    rw [ind_and, dev_ch h.set hi hx, dev_ch h.set hi hy]; rfl
  have e1 : sumL (List.range v) (fun i => ch xs ((x + v - i) % v) * ch xs ((y + v - i) % v)) = dif v xs ((y + v - x) % v) := by
    unfold dif
    rw [← perm_sum (v := v) (π := fun i => (x + v - i) % v) (fun i _ => Nat.mod_lt _ hv) back_inj (fun z => ch xs z * ch xs ((z + (y + v - x) % v) % v))]
    refine sumL_congr fun i hi => ?_
    rw [List.mem_range] at hi
    have : ((x + v - i) % v + (y + v - x) % v) % v = (y + v - i) % v := by
      rw [← Nat.add_mod, show x + v - i + (y + v - x) = y + v - i + v by omega, Nat.add_mod_right]
    rw [this]
  have hd : (y + v - x) % v ≠ 0 := by
    intro hc
    by_cases hlt : x ≤ y
    · rw [show y + v - x = (y - x) + v by omega, Nat.add_mod_right, Nat.mod_eq_of_lt (by omega)] at hc; omega
    · rw [Nat.mod_eq_of_lt (by omega)] at hc; omega
  have := h.all _ (by omega) (Nat.mod_lt (y + v - x) hv)
  rw [← e1, ← e0] at this
  omega
theorem dev_lev {v l : Nat} {xs : List Int} (h : DLev v xs l) (h40 : v ≤ 40) (hk : 2 ≤ xs.length) : Lev v (devL v xs) 2 xs.length l := by
  have hlo := h.set.lo
  have hlen := inc_len h.set.rng h.set.inc (by omega)
  refine ⟨⟨by omega, by omega, by rw [devL_len]; omega, fun i hi => ?_⟩, by omega, by omega, by rw [devL_len]; omega, fun i hi => ?_, fun P h1 h2 h3 => ?_⟩
  · rw [devL_len] at hi
    rw [devL_rx hi]
    have := mov_set (s := i) h.set (Nat.gcd_one_left v)
    exact ⟨this.rng, this.inc⟩
  · rw [devL_len] at hi
    rw [devL_rx hi, mov_len]
  · match P, h1, h2, h3 with
    | [x, y], h1, h2, _ =>
      rw [List.nodup_cons] at h1
      exact dev_pair h (h2 x (by simp)) (h2 y (by simp)) (fun e => h1.1 (by simp [e]))
end Go.Proofs.Ytnmgambilpoeiaa
