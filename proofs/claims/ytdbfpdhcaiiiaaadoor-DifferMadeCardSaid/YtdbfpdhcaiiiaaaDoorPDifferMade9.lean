/-
  Rising lists are told by their members; the plain laws of what is derived from a design. No condition.
  Plain words: the numbers that are picked, in order; sums over them. No program in sight. No condition.
  Plain laws: sets whose differences are all alike. No program in sight. No condition.
-/
import Derived.Test.YtdbfpdhcaiiiaaaDoorPDifferMade8
import Derived.Test.YtdbfpdhcaiiiaaaDoorPDifferMade3
import Derived.Test.YtdbfpdhcaiiiaaaDoorPDifferMade4
namespace Go.Proofs.YtdbfpdhcaiiiaaaDoor
open Go.RowKit

theorem rise_ext : ∀ {a b : List Int}, a.Pairwise (· < ·) → b.Pairwise (· < ·) → (∀ x, x ∈ a ↔ x ∈ b) → a = b
  | [], [], _, _, _ => rfl
  | [], y :: b, _, _, h => by have := (h y).2 (by simp); simp at this
  | x :: a, [], _, _, h => by have := (h x).1 (by simp); simp at this
  | x :: a, y :: b, ha, hb, h => by
    rw [List.pairwise_cons] at ha hb
    have hxy : x = y := by
      have h1 := (h x).1 (by simp)
      have h2 := (h y).2 (by simp)
      rcases List.mem_cons.1 h1 with e | h1
      · exact e
      · rcases List.mem_cons.1 h2 with e | h2
        · exact e.symm
        · have := hb.1 x h1; have := ha.1 y h2; omega
    subst hxy
    rw [rise_ext ha.2 hb.2 fun z => ?_]
    constructor
    · intro hz
      rcases List.mem_cons.1 ((h z).1 (by simp [hz])) with e | h1
      · subst e; have := ha.1 z hz; omega
      · exact h1
    · intro hz
      rcases List.mem_cons.1 ((h z).2 (by simp [hz])) with e | h1
      · subst e; have := hb.1 z hz; omega
      · exact h1
theorem inc_pair {l : List Int} (h : incB l = true) : l.Pairwise (· < ·) := by
  rw [List.pairwise_iff_getElem]
  intro i j hi hj hij
  have := inc_lt h hij hj
  rw [ix_lt hi, ix_lt hj] at this; exact this
theorem pair_snoc {l : List Int} {x : Int} (h : l.Pairwise (· < ·)) (hx : ∀ y ∈ l, y < x) : (l ++ [x]).Pairwise (· < ·) := by
  rw [List.pairwise_append]
  exact ⟨h, by simp, fun a ha b hb => by rw [List.mem_singleton] at hb; subst hb; exact hx a ha⟩
theorem pickL_pair (p : Nat → Bool) : ∀ m, (pickL p m).Pairwise (· < ·)
  | 0 => List.Pairwise.nil
  | m + 1 => by
    have ih := pickL_pair p m
    cases e : p m
    · rw [pickL_no e]; exact ih
    · rw [pickL_yes e]
      exact pair_snoc ih fun y hy => by
        obtain ⟨j, h1, _, h3⟩ := mem_pickL.1 hy
        omega
/-- A rising list of small numbers is the list of the numbers in it. -/
theorem rise_pick {n : Nat} {l : List Int} (hp : l.Pairwise (· < ·)) (hr : ∀ x ∈ l, 0 ≤ x ∧ x < (n : Int)) {q : Nat → Bool} (hq : ∀ j : Nat, j < n → (q j = true ↔ (j : Int) ∈ l)) : l = pickL q n := by
  refine rise_ext hp (pickL_pair _ _) fun x => ?_
  rw [mem_pickL]
  constructor
  · intro hx
    have := hr x hx
    obtain ⟨j, rfl⟩ := Int.eq_ofNat_of_zero_le this.1
    exact ⟨j, by omega, (hq j (by omega)).2 hx, rfl⟩
  · rintro ⟨j, h1, h2, rfl⟩
    exact (hq j h1).1 h2
theorem ix_of_mem {xs : List Int} {x : Int} (h : x ∈ xs) : ∃ i, i < xs.length ∧ ix xs i = x := by
  obtain ⟨i, hi, e⟩ := List.getElem_of_mem h
  exact ⟨i, hi, by rw [ix_lt hi]; exact e⟩
theorem IsBlock.pair {n : Int} {b : List Int} (h : IsBlock n b) : b.Pairwise (· < ·) := inc_pair h.inc
theorem IsBlock.mem_rng {n : Int} {b : List Int} (h : IsBlock n b) {x : Int} (hx : x ∈ b) : 0 ≤ x ∧ x < n := by
  obtain ⟨i, hi, rfl⟩ := ix_of_mem hx
  exact h.rng i hi
theorem IsBlock.len {n : Nat} {b : List Int} (h : IsBlock n b) : b.length ≤ n := by
  have := inc_len h.rng h.inc (by omega)
  omega
/-- A rising list of small numbers is a block. -/
theorem block_pair {n : Int} {b : List Int} (hp : b.Pairwise (· < ·)) (hr : ∀ x ∈ b, 0 ≤ x ∧ x < n) : IsBlock n b := by
  refine ⟨fun k hk => hr _ (ix_mem hk), inc_of fun i j hij hj => ?_⟩
  rw [List.pairwise_iff_getElem] at hp
  have := hp i j (by omega) hj hij
  rw [ix_lt (show i < b.length by omega), ix_lt hj]; exact this
end Go.Proofs.YtdbfpdhcaiiiaaaDoor

namespace Go.Proofs.YtdbfpdhcaiiiaaaDoor
open Go.RowKit

theorem pickL_mem {p : Nat → Bool} {n x : Nat} (hx : x < n) : mem (pickL p n) (x : Int) = p x := by
  rw [Bool.eq_iff_iff, mem_iff, mem_pickL]
  constructor
  · rintro ⟨j, h1, h2, h3⟩; obtain rfl : x = j := by omega
    exact h2
  · intro h; exact ⟨x, hx, h, rfl⟩
/-- The sum over the numbers that are picked. -/
theorem sum_pick (p : Nat → Bool) (g : Int → Int) : ∀ n, sumL (pickL p n) g = sumL (List.range n) (fun y => ind (p y) * g (y : Int))
  | 0 => rfl
  | n + 1 => by
    rw [range_succ_sum]
    cases e : p n
    · rw [pickL_no e, sum_pick p g n, ind_false]; omega
    · rw [pickL_yes e, sumL_append, sum_pick p g n, ind_true]; simp [sumL]
theorem sum_ix (g : Int → Int) : ∀ l : List Int, sumL (List.range l.length) (fun x => g (ix l x)) = sumL l g
  | [] => rfl
  | a :: l => by
    rw [List.length_cons, List.range_succ_eq_map]
    show g (ix (a :: l) 0) + sumL ((List.range l.length).map Nat.succ) _ = g a + sumL l g
    rw [sumL_map, ← sum_ix g l]
    rfl
end Go.Proofs.YtdbfpdhcaiiiaaaDoor

namespace Go.Proofs.YtdbfpdhcaiiiaaaDoor
open Go.RowKit

/-- The difference of two, modulo v. -/
def dN (v : Nat) (a b : Int) : Nat := ((a - b + v) % v).toNat
/-- How often a number is a difference: of place i and the first j; of all before. -/
def drow (v : Nat) (xs : List Int) (i : Nat) : Nat → Nat → Nat
  | 0, _ => 0
  | j + 1, n => drow v xs i j n + if dN v (ix xs i) (ix xs j) = n then 1 else 0
def dto (v : Nat) (xs : List Int) : Nat → Nat → Nat
  | 0, _ => 0
  | i + 1, n => dto v xs i n + drow v xs i xs.length n
def dcnt (v : Nat) (xs : List Int) (n : Nat) : Nat := dto v xs xs.length n
def ch (xs : List Int) (y : Nat) : Int := ind (mem xs (y : Int))
/-- The same, by members. -/
def dif (v : Nat) (xs : List Int) (n : Nat) : Int := sumL (List.range v) (fun x => ch xs x * ch xs ((x + n) % v))
theorem drow_le (v : Nat) (xs : List Int) (i n : Nat) : ∀ j, drow v xs i j n ≤ j
  | 0 => Nat.le_refl _
  | j + 1 => by have := drow_le v xs i n j; rw [drow]; split <;> omega
theorem dto_le (v : Nat) (xs : List Int) (n : Nat) : ∀ i, dto v xs i n ≤ i * xs.length
  | 0 => by simp [dto]
  | i + 1 => by have := dto_le v xs n i; have := drow_le v xs i n xs.length; rw [dto, Nat.succ_mul]; omega
theorem drow_sum (v : Nat) (xs : List Int) (i n : Nat) : ∀ j, ((drow v xs i j n : Nat) : Int) = sumL (List.range j) (fun q => ind (decide (dN v (ix xs i) (ix xs q) = n)))
  | 0 => rfl
  | j + 1 => by
    rw [range_succ_sum, ← drow_sum v xs i n j, drow]
    by_cases e : dN v (ix xs i) (ix xs j) = n
    · simp [e, ind]
    · simp [e, ind]
theorem dto_sum (v : Nat) (xs : List Int) (n : Nat) : ∀ i, ((dto v xs i n : Nat) : Int) = sumL (List.range i) (fun q => ((drow v xs q xs.length n : Nat) : Int))
  | 0 => rfl
  | i + 1 => by rw [range_succ_sum, ← dto_sum v xs n i, dto]; omega
theorem set_pick {v : Nat} {xs : List Int} (h : IsSet v xs) : xs = pickL (fun y => mem xs (y : Int)) v :=
  rise_pick (inc_pair h.inc) (fun x hx => by obtain ⟨i, hi, rfl⟩ := ix_of_mem hx; exact h.rng i hi) fun y _ => mem_iff _ _
theorem set_sum {v : Nat} {xs : List Int} (h : IsSet v xs) (g : Int → Int) : sumL xs g = sumL (List.range v) (fun y => ch xs y * g (y : Int)) := by
  have e := set_pick h
  have e1 : sumL xs g = sumL (pickL (fun y => mem xs (y : Int)) v) g := by rw [← e]
  rw [e1, sum_pick]; rfl
theorem dN_iff {v a b n : Nat} (ha : a < v) (hb : b < v) (hn : n < v) : dN v (a : Int) (b : Int) = n ↔ a = (b + n) % v := by
  unfold dN
  by_cases h : b ≤ a
  · have e : ((a : Int) - b + v) % v = ((a - b : Nat) : Int) := by
      rw [show (a : Int) - b + v = ((a - b : Nat) : Int) + v by omega, Int.add_emod_right]
      exact Int.emod_eq_of_lt (by omega) (by omega)
    rw [e, Int.toNat_natCast]
    constructor
    · intro e2
      rw [show b + n = a by omega, Nat.mod_eq_of_lt ha]
    · intro e2
      by_cases h2 : b + n < v
      · rw [Nat.mod_eq_of_lt h2] at e2; omega
      · rw [Nat.mod_eq_sub_mod (by omega), Nat.mod_eq_of_lt (by omega)] at e2; omega
  · have e : ((a : Int) - b + v) % v = ((a + v - b : Nat) : Int) := by
      rw [show (a : Int) - b + v = ((a + v - b : Nat) : Int) by omega]
      exact Int.emod_eq_of_lt (by omega) (by omega)
    rw [e, Int.toNat_natCast]
    constructor
    · intro e2
      rw [show b + n = a + v by omega, Nat.add_mod_right, Nat.mod_eq_of_lt ha]
    · intro e2
      by_cases h2 : b + n < v
      · rw [Nat.mod_eq_of_lt h2] at e2; omega
      · rw [Nat.mod_eq_sub_mod (by omega), Nat.mod_eq_of_lt (by omega)] at e2; omega
theorem dcnt_dif {v : Nat} {xs : List Int} (h : IsSet v xs) {n : Nat} (hn : n < v) : ((dcnt v xs n : Nat) : Int) = dif v xs n := by
  unfold dcnt dif
  rw [dto_sum, sumL_congr fun i _ => drow_sum v xs i n xs.length]
  rw [sum_ix (fun a => sumL (List.range xs.length) (fun q => ind (decide (dN v a (ix xs q) = n)))), sumL_congr fun a _ => sum_ix (fun b => ind (decide (dN v a b = n))) xs, sumL_swap, set_sum h]
  refine sumL_congr fun b hb => ?_
  rw [List.mem_range] at hb
  congr 1
  rw [set_sum h]
  have hm : (b + n) % v < v := Nat.mod_lt _ (by omega)
  have e : ∀ a, a ∈ List.range v → ch xs a * ind (decide (dN v (a : Int) (b : Int) = n)) = ind (a == (b + n) % v) * ch xs a := by
    intro a ha
    rw [List.mem_range] at ha
    rw [Int.mul_comm]
    congr 1
    refine ind_iff ?_
    rw [decide_eq_true_iff, beq_iff_eq]
    exact dN_iff ha hb hn
  rw [sumL_congr e, sum_one (fun a => ch xs a) hm]
/-- What differ.Level tells. -/
def dAll (v : Nat) (xs : List Int) : Nat → Bool
  | 0 => true
  | m + 1 => dAll v xs m && decide (m = 0 ∨ dcnt v xs m = dcnt v xs 1)
theorem dAll_iff {v : Nat} {xs : List Int} : ∀ {m : Nat}, dAll v xs m = true ↔ ∀ n, 1 ≤ n → n < m → dcnt v xs n = dcnt v xs 1
  | 0 => by simp [dAll]
  | m + 1 => by
    rw [dAll, Bool.and_eq_true, dAll_iff, decide_eq_true_iff]
    constructor
    · rintro ⟨h1, h2⟩ n hn hm
      by_cases e : n = m
      · subst e; rcases h2 with h2 | h2
        · omega
        · exact h2
      · exact h1 n hn (by omega)
    · intro h
      refine ⟨fun n hn hm => h n hn (by omega), ?_⟩
      by_cases e : m = 0
      · exact .inl e
      · exact .inr (h m (by omega) (by omega))
theorem dAll_stop {v : Nat} {xs : List Int} {n : Nat} (hn : 1 ≤ n) (h : dcnt v xs n ≠ dcnt v xs 1) {m : Nat} (hm : n < m) : dAll v xs m = false := by
  cases e : dAll v xs m
  · rfl
  · exact absurd (dAll_iff.1 e n hn hm) h
def difE (v : Int) (xs : List Int) : Int := if setFault v xs ≠ 0 then setFault v xs else if dAll v.toNat xs v.toNat then 0 else 4
def difL (v : Int) (xs : List Int) : Int := if difE v xs = 0 then (if v = 1 then 0 else (dcnt v.toNat xs 1 : Nat)) else 0
/-- A set of a level. -/
structure DLev (v : Nat) (xs : List Int) (l : Nat) : Prop where
  set : IsSet v xs
  all : ∀ n, 1 ≤ n → n < v → dif v xs n = l
  one : v = 1 → l = 0
theorem dlev_ok {v : Int} {xs : List Int} (h : difE v xs = 0) : ∃ V l : Nat, v = V ∧ difL v xs = l ∧ DLev V xs l := by
  have h0 := h
  unfold difE at h
  by_cases h1 : setFault v xs ≠ 0
  · rw [if_pos h1] at h; exact absurd h h1
  · rw [if_neg h1] at h
    have hS := set_of (show setFault v xs = 0 by simpa using h1)
    have := hS.lo
    obtain ⟨V, rfl⟩ := Int.eq_ofNat_of_zero_le (show 0 ≤ v by omega)
    rw [Int.toNat_natCast] at h
    cases h2 : dAll V xs V
    · rw [h2] at h; simp at h
    · by_cases hv : V = 1
      · subst hv
        exact ⟨1, 0, rfl, by unfold difL; rw [if_pos h0]; rfl, hS, fun n h1 h2 => by omega, fun _ => rfl⟩
      · refine ⟨V, dcnt V xs 1, rfl, by unfold difL; rw [if_pos h0, if_neg (by omega), Int.toNat_natCast], hS, fun n g1 g2 => ?_, fun e => absurd e hv⟩
        rw [← dcnt_dif hS g2, dAll_iff.1 h2 n g1 g2]
theorem DLev.ok {v l : Nat} {xs : List Int} (h : DLev v xs l) : difE v xs = 0 ∧ difL v xs = l := by
  have hlo := h.set.lo
  have hd : dAll v xs v = true := dAll_iff.2 fun n g1 g2 => by
    have e1 := dcnt_dif h.set g2
    have e2 := dcnt_dif h.set (show 1 < v by omega)
    rw [h.all n g1 g2] at e1
    rw [h.all 1 (by omega) (by omega)] at e2
    omega
  have h0 : difE v xs = 0 := by
    unfold difE
    rw [if_neg (by rw [h.set.fault]; simp), Int.toNat_natCast, hd]; rfl
  refine ⟨h0, ?_⟩
  unfold difL
  rw [if_pos h0, Int.toNat_natCast]
  by_cases hv : v = 1
  · rw [if_pos (by omega), h.one hv]; rfl
  · rw [if_neg (by omega), dcnt_dif h.set (show 1 < v by omega), h.all 1 (by omega) (by omega)]
end Go.Proofs.YtdbfpdhcaiiiaaaDoor
