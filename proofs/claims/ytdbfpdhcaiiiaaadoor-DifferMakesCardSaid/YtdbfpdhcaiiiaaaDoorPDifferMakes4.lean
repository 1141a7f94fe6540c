/-
  Plain words: the numbers that are picked, in order; sums over them. No program in sight. No condition.
  Plain laws: sets whose differences are all alike. No program in sight. No condition.
  Plain laws: what is left out of a set of a level, and what is moved or multiplied, is of a level. No program in sight. No condition.
  Contract: the reference's Shifted. No condition.
  Contract: differ.changed. No condition.
  Contracts: differ.Check, the reference's SetFault: what is wrong with a set. No condition.
-/
import Derived.Test.YtdbfpdhcaiiiaaaDoorPDifferMakes2
import Derived.Test.YtdbfpdhcaiiiaaaDoorPDifferMakes3
import Derived.Test.YtdbfpdhcaiiiaaaDoorPDifferMakes1
namespace Go.Proofs.YtdbfpdhcaiiiaaaDoor
open Go.RowKit

theorem pickL_mem {p : Nat → Bool} {n x : Nat} (hx : x < n) : mem (pickL p n) (x : Int) = p x := by
  rw [Bool.eq_iff_iff, mem_iff, mem_pickL]
  constructor
  · rintro ⟨j, h1, h2, h3⟩; obtain rfl : x = j := by omega
    exact h2
  · intro h; exact ⟨x, hx, h, rfl⟩
/-- The sum over the numbers that are picked. -/
theorem sum_pick (p : Nat → Bool) (g : Int → Int) : ∀ n, sumL (pickL p n) g = sumL (List.range n) (fun y => ind (p y) * g (y : Int))
  | 0 => rfl
  | n + 1 => by
    rw [range_succ_sum]
    cases e : p n
    · rw [pickL_no e, sum_pick p g n, ind_false]; omega
    · rw [pickL_yes e, sumL_append, sum_pick p g n, ind_true]; simp [sumL]
theorem sum_ix (g : Int → Int) : ∀ l : List Int, sumL (List.range l.length) (fun x => g (ix l x)) = sumL l g
  | [] => rfl
  | a :: l => by
    rw [List.length_cons, List.range_succ_eq_map]
    show g (ix (a :: l) 0) + sumL ((List.range l.length).map Nat.succ) _ = g a + sumL l g
    rw [sumL_map, ← sum_ix g l]
    rfl
end Go.Proofs.YtdbfpdhcaiiiaaaDoor

namespace Go.Proofs.YtdbfpdhcaiiiaaaDoor
open Go.RowKit

/-- The difference of two, modulo v. -/
def dN (v : Nat) (a b : Int) : Nat := ((a - b + v) % v).toNat
/-- How often a number is a difference: of place i and the first j; of all before. -/
def drow (v : Nat) (xs : List Int) (i : Nat) : Nat → Nat → Nat
  | 0, _ => 0
  | j + 1, n => drow v xs i j n + if dN v (ix xs i) (ix xs j) = n then 1 else 0
def dto (v : Nat) (xs : List Int) : Nat → Nat → Nat
  | 0, _ => 0
  | i + 1, n => dto v xs i n + drow v xs i xs.length n
def dcnt (v : Nat) (xs : List Int) (n : Nat) : Nat := dto v xs xs.length n
def ch (xs : List Int) (y : Nat) : Int := ind (mem xs (y : Int))
/-- The same, by members. -/
def dif (v : Nat) (xs : List Int) (n : Nat) : Int := sumL (List.range v) (fun x => ch xs x * ch xs ((x + n) % v))
theorem drow_le (v : Nat) (xs : List Int) (i n : Nat) : ∀ j, drow v xs i j n ≤ j
  | 0 => Nat.le_refl _
  | j + 1 => by have := drow_le v xs i n j; rw [drow]; split <;> omega
theorem dto_le (v : Nat) (xs : List Int) (n : Nat) : ∀ i, dto v xs i n ≤ i * xs.length
  | 0 => by simp [dto]
  | i + 1 => by have := dto_le v xs n i; have := drow_le v xs i n xs.length; rw [dto, Nat.succ_mul]; omega
theorem drow_sum (v : Nat) (xs : List Int) (i n : Nat) : ∀ j, ((drow v xs i j n : Nat) : Int) = sumL (List.range j) (fun q => ind (decide (dN v (ix xs i) (ix xs q) = n)))
  | 0 => rfl
  | j + 1 => by
    rw [range_succ_sum, ← drow_sum v xs i n j, drow]
    by_cases e : dN v (ix xs i) (ix xs j) = n
    · simp [e, ind]
    · simp [e, ind]
theorem dto_sum (v : Nat) (xs : List Int) (n : Nat) : ∀ i, ((dto v xs i n : Nat) : Int) = sumL (List.range i) (fun q => ((drow v xs q xs.length n : Nat) : Int))
  | 0 => rfl
  | i + 1 => by rw [range_succ_sum, ← dto_sum v xs n i, dto]; omega
theorem set_pick {v : Nat} {xs : List Int} (h : IsSet v xs) : xs = pickL (fun y => mem xs (y : Int)) v :=
  rise_pick (inc_pair h.inc) (fun x hx => by obtain ⟨i, hi, rfl⟩ := ix_of_mem hx; exact h.rng i hi) fun y _ => mem_iff _ _
theorem set_sum {v : Nat} {xs : List Int} (h : IsSet v xs) (g : Int → Int) : sumL xs g = sumL (List.range v) (fun y => ch xs y * g (y : Int)) := by
  have e := set_pick h
  have e1 : sumL xs g = sumL (pickL (fun y => mem xs (y : Int)) v) g := by rw [← e]
  rw [e1, sum_pick]; rfl
theorem dN_iff {v a b n : Nat} (ha : a < v) (hb : b < v) (hn : n < v) : dN v (a : Int) (b : Int) = n ↔ a = (b + n) % v := by
  unfold dN
  by_cases h : b ≤ a
  · have e : ((a : Int) - b + v) % v = ((a - b : Nat) : Int) := by
      rw [show (a : Int) - b + v = ((a - b : Nat) : Int) + v by omega, Int.add_emod_right]
      exact Int.emod_eq_of_lt (by omega) (by omega)
    rw [e, Int.toNat_natCast]
    constructor
    · intro e2
      rw [show b + n = a by omega, Nat.mod_eq_of_lt ha]
    · intro e2
      by_cases h2 : b + n < v
      · rw [Nat.mod_eq_of_lt h2] at e2; omega
      · rw [Nat.mod_eq_sub_mod (by omega), Nat.mod_eq_of_lt (by omega)] at e2; omega
  · have e : ((a : Int) - b + v) % v = ((a + v - b : Nat) : Int) := by
      rw [show (a : Int) - b + v = ((a + v - b : Nat) : Int) by omega]
      exact Int.emod_eq_of_lt (by omega) (by omega)
    rw [e, Int.toNat_natCast]
    constructor
    · intro e2
      rw [show b + n = a + v by omega, Nat.add_mod_right, Nat.mod_eq_of_lt ha]
    · intro e2
      by_cases h2 : b + n < v
      · rw [Nat.mod_eq_of_lt h2] at e2; omega
      · rw [Nat.mod_eq_sub_mod (by omega), Nat.mod_eq_of_lt (by omega)] at e2; omega
theorem dcnt_dif {v : Nat} {xs : List Int} (h : IsSet v xs) {n : Nat} (hn : n < v) : ((dcnt v xs n : Nat) : Int) = dif v xs n := by
  unfold dcnt dif
  rw [dto_sum, sumL_congr fun i _ => drow_sum v xs i n xs.length]
  rw [sum_ix (fun a => sumL (List.range xs.length) (fun q => ind (decide (dN v a (ix xs q) = n)))), sumL_congr fun a _ => sum_ix (fun b => ind (decide (dN v a b = n))) xs, sumL_swap, set_sum h]
  refine sumL_congr fun b hb => ?_
  rw [List.mem_range] at hb
  congr 1
  rw [set_sum h]
  have hm : (b + n) % v < v := Nat.mod_lt _ (by omega)
  have e : ∀ a, a ∈ List.range v → ch xs a * ind (decide (dN v (a : Int) (b : Int) = n)) = ind (a == (b + n) % v) * ch xs a := by
    intro a ha
    rw [List.mem_range] at ha
    rw [Int.mul_comm]
    congr 1
    refine ind_iff ?_
    rw [decide_eq_true_iff, beq_iff_eq]
    exact dN_iff ha hb hn
  rw [sumL_congr e, sum_one (fun a => ch xs a) hm]
/-- What differ.Level tells. -/
def dAll (v : Nat) (xs : List Int) : Nat → Bool
  | 0 => true
  | m + 1 => dAll v xs m && decide (m = 0 ∨ dcnt v xs m = dcnt v xs 1)
theorem dAll_iff {v : Nat} {xs : List Int} : ∀ {m : Nat}, dAll v xs m = true ↔ ∀ n, 1 ≤ n → n < m → dcnt v xs n = dcnt v xs 1
  | 0 => by simp [dAll]
  | m + 1 => by
    rw [dAll, Bool.and_eq_true, dAll_iff, decide_eq_true_iff]
    constructor
    · rintro ⟨h1, h2⟩ n hn hm
      by_cases e : n = m
      · subst e; rcases h2 with h2 | h2
        · omega
        · exact h2
      · exact h1 n hn (by omega)
    · intro h
      refine ⟨fun n hn hm => h n hn (by omega), ?_⟩
      by_cases e : m = 0
      · exact .inl e
      · exact .inr (h m (by omega) (by omega))
theorem dAll_stop {v : Nat} {xs : List Int} {n : Nat} (hn : 1 ≤ n) (h : dcnt v xs n ≠ dcnt v xs 1) {m : Nat} (hm : n < m) : dAll v xs m = false := by
  cases e : dAll v xs m
  · rfl
  · exact absurd (dAll_iff.1 e n hn hm) h
def difE (v : Int) (xs : List Int) : Int := if setFault v xs ≠ 0 then setFault v xs else if dAll v.toNat xs v.toNat then 0 else 4
def difL (v : Int) (xs : List Int) : Int := if difE v xs = 0 then (if v = 1 then 0 else (dcnt v.toNat xs 1 : Nat)) else 0
/-- A set of a level. -/
structure DLev (v : Nat) (xs : List Int) (l : Nat) : Prop where
  set : IsSet v xs
  all : ∀ n, 1 ≤ n → n < v → dif v xs n = l
  one : v = 1 → l = 0
theorem dlev_ok {v : Int} {xs : List Int} (h : difE v xs = 0) : ∃ V l : Nat, v = V ∧ difL v xs = l ∧ DLev V xs l := by
  have h0 := h
  unfold difE at h
  by_cases h1 : setFault v xs ≠ 0
  · rw [if_pos h1] at h; exact absurd h h1
  · rw [if_neg h1] at h
    have hS := set_of (show setFault v xs = 0 by simpa using h1)
    have := hS.lo
    obtain ⟨V, rfl⟩ := Int.eq_ofNat_of_zero_le (show 0 ≤ v by omega)
    rw [Int.toNat_natCast] at h
    cases h2 : dAll V xs V
    · rw [h2] at h; simp at h
    · by_cases hv : V = 1
      · subst hv
        exact ⟨1, 0, rfl, by unfold difL; rw [if_pos h0]; rfl, hS, fun n h1 h2 => by omega, fun _ => rfl⟩
      · refine ⟨V, dcnt V xs 1, rfl, by unfold difL; rw [if_pos h0, if_neg (by omega), Int.toNat_natCast], hS, fun n g1 g2 => ?_, fun e => absurd e hv⟩
        rw [← dcnt_dif hS g2, dAll_iff.1 h2 n g1 g2]
theorem DLev.ok {v l : Nat} {xs : List Int} (h : DLev v xs l) : difE v xs = 0 ∧ difL v xs = l := by
  have hlo := h.set.lo
  have hd : dAll v xs v = true := dAll_iff.2 fun n g1 g2 => by
    have e1 := dcnt_dif h.set g2
    have e2 := dcnt_dif h.set (show 1 < v by omega)
    rw [h.all n g1 g2] at e1
    rw [h.all 1 (by omega) (by omega)] at e2
    omega
  have h0 : difE v xs = 0 := by
    unfold difE
    rw [if_neg (by rw [h.set.fault]; simp), Int.toNat_natCast, hd]; rfl
  refine ⟨h0, ?_⟩
  unfold difL
  rw [if_pos h0, Int.toNat_natCast]
  by_cases hv : v = 1
  · rw [if_pos (by omega), h.one hv]; rfl
  · rw [if_neg (by omega), dcnt_dif h.set (show 1 < v by omega), h.all 1 (by omega) (by omega)]
end Go.Proofs.YtdbfpdhcaiiiaaaDoor

namespace Go.Proofs.YtdbfpdhcaiiiaaaDoor
open Go.RowKit

/-- A sum over all, in another order. -/
theorem perm_sum {v : Nat} {π : Nat → Nat} (hr : ∀ x, x < v → π x < v) (hi : ∀ x y, x < v → y < v → π x = π y → x = y) (F : Nat → Int) :
    sumL (List.range v) (fun x => F (π x)) = sumL (List.range v) F := by
  have h1 : ∀ y, sumL (List.range v) (fun x => ind (y == π x)) ≤ 1 := by
    intro y
    by_cases e : ∃ x, x < v ∧ π x = y
    · obtain ⟨x0, hx0, e⟩ := e
      have : ∀ x, x ∈ List.range v → ind (y == π x) = ind (x == x0) * 1 := by
        intro x hx
        rw [List.mem_range] at hx
        rw [Int.mul_one]
        refine ind_iff ?_
        rw [beq_iff_eq, beq_iff_eq]
        constructor
        · intro e2; exact hi x x0 hx hx0 (by omega)
        · rintro rfl; exact e.symm
      rw [sumL_congr this, sum_one (fun _ => 1) hx0]; exact Int.le_refl _
    · have : ∀ x, x ∈ List.range v → ind (y == π x) = 0 := by
        intro x hx
        rw [List.mem_range] at hx
        have : (y == π x) = false := by simp; intro e2; exact e ⟨x, hx, e2.symm⟩
        rw [this]; rfl
      rw [sumL_congr this, sumL_zero]; decide
  have h2 : sumL (List.range v) (fun y => sumL (List.range v) (fun x => ind (y == π x))) = v := by
    rw [sumL_swap]
    have : ∀ x, x ∈ List.range v → sumL (List.range v) (fun y => ind (y == π x)) = 1 := by
      intro x hx
      rw [List.mem_range] at hx
      have := sum_one (fun _ => 1) (hr x hx)
      rw [← this]
      exact sumL_congr fun y _ => (Int.mul_one _).symm
    rw [sumL_congr this, sumL_const, List.length_range]; omega
  have h3 : ∀ y, y ∈ List.range v → sumL (List.range v) (fun x => ind (y == π x)) = 1 := by
    have e0 : sumL (List.range v) (fun y => 1 - sumL (List.range v) (fun x => ind (y == π x))) = 0 := by
      rw [sumL_sub, h2, sumL_const, List.length_range]; omega
    intro y hy
    have := sumL_null (fun y _ => by have := h1 y; omega) e0 y hy
    omega
  have h4 : ∀ x, x ∈ List.range v → F (π x) = sumL (List.range v) (fun y => ind (y == π x) * F y) := by
    intro x hx
    rw [List.mem_range] at hx
    exact (sum_one F (hr x hx)).symm
  rw [sumL_congr h4, sumL_swap]
  refine sumL_congr fun y hy => ?_
  rw [sumL_mulr, h3 y hy, Int.one_mul]
/-- What is reached by all, reaches all. -/
theorem perm_onto {v : Nat} {π : Nat → Nat} (hr : ∀ x, x < v → π x < v) (hi : ∀ x y, x < v → y < v → π x = π y → x = y) {y : Nat} (hy : y < v) : ∃ x, x < v ∧ π x = y := by
  refine Classical.byContradiction fun hno => ?_
  have h := perm_sum hr hi (fun z => ind (z == y) * 1)
  rw [sum_one (fun _ => 1) hy] at h
  have : sumL (List.range v) (fun x => ind (π x == y) * 1) = 0 := by
    rw [← sumL_zero (List.range v)]
    refine sumL_congr fun x hx => ?_
    have : (π x == y) = false := by simp; intro e; exact hno ⟨x, List.mem_range.1 hx, e⟩
    rw [this]; rfl
  rw [this] at h; cases h
theorem dvd_mod {a b v : Nat} (h : a % v = b % v) (_ : b ≤ a) : v ∣ a - b := Nat.dvd_of_mod_eq_zero (Nat.sub_mod_eq_zero_of_mod_eq h)
theorem shift_inj {v n : Nat} : ∀ x y, x < v → y < v → (x + n) % v = (y + n) % v → x = y := by
  intro x y hx hy h
  have key : ∀ a b, a < v → b ≤ a → (a + n) % v = (b + n) % v → a = b := by
    intro a b ha hba h
    have h2 := dvd_mod h (by omega)
    rw [show a + n - (b + n) = a - b by omega] at h2
    have := Nat.eq_zero_of_dvd_of_lt h2 (by omega)
    omega
  rcases Nat.le_total y x with h4 | h4
  · exact key x y hx h4 h
  · exact (key y x hy h4 h.symm).symm
theorem ch_sum {v : Nat} {xs : List Int} (h : IsSet v xs) : sumL (List.range v) (fun x => ch xs x) = xs.length := by
  have := set_sum h (fun _ => 1)
  rw [sumL_const, Int.one_mul] at this
  rw [this]
  exact sumL_congr fun y _ => (Int.mul_one _).symm
theorem ch_shift {v : Nat} {xs : List Int} (h : IsSet v xs) (n : Nat) : sumL (List.range v) (fun x => ch xs ((x + n) % v)) = xs.length := by
  rw [perm_sum (π := fun x => (x + n) % v) (fun x hx => Nat.mod_lt _ (by omega)) shift_inj (ch xs), ch_sum h]
/-- What is left out. -/
def restL (v : Nat) (xs : List Int) : List Int := pickL (fun x => !mem xs (x : Int)) v
theorem pick_set {v : Nat} (p : Nat → Bool) (h1 : 1 ≤ v) (h2 : v ≤ 60) : IsSet v (pickL p v) := by
  have hp := pickL_pair p v
  refine ⟨by omega, by omega, fun k hk => ?_, inc_of fun i j hij hj => ?_⟩
  · obtain ⟨j, a, _, e⟩ := mem_pickL.1 (ix_mem hk); omega
  · rw [List.pairwise_iff_getElem] at hp
    rw [ix_lt (by omega), ix_lt hj]; exact hp i j (by omega) hj hij
theorem DLev.rest {v l : Nat} {xs : List Int} (h : DLev v xs l) : ∃ m : Nat, DLev v (restL v xs) m ∧ (1 < v → (m : Int) = v - 2 * xs.length + l) := by
  have hlo := h.set.lo; have hhi := h.set.hi
  have hc : ∀ x, x < v → ch (restL v xs) x = 1 - ch xs x := fun x hx => by
    unfold ch restL
    rw [pickL_mem hx, ind_not]
  have key : ∀ n, 1 ≤ n → n < v → dif v (restL v xs) n = (v : Int) - 2 * xs.length + l := by
    intro n h1 h2
    unfold dif
    have e : ∀ x, x ∈ List.range v → ch (restL v xs) x * ch (restL v xs) ((x + n) % v) = 1 - ch xs x - ch xs ((x + n) % v) + ch xs x * ch xs ((x + n) % v) := by
      intro x hx
      rw [List.mem_range] at hx
      rw [hc x hx, hc _ (Nat.mod_lt _ (by omega))]
      generalize ch xs x = a; generalize ch xs ((x + n) % v) = b
      rw [Int.sub_mul, Int.one_mul, Int.mul_sub, Int.mul_one]; omega
    rw [sumL_congr e, sumL_add, sumL_sub, sumL_sub, ch_sum h.set, ch_shift h.set, sumL_const, List.length_range]
    have := h.all n h1 h2
    unfold dif at this
    rw [this]; omega
  by_cases hv : v = 1
  · subst hv
    exact ⟨0, ⟨pick_set _ (by omega) (by omega), fun n h1 h2 => by omega, fun _ => rfl⟩, fun h => by omega⟩
  · have hpos : 0 ≤ (v : Int) - 2 * xs.length + l := by
      rw [← key 1 (by omega) (by omega)]
      exact sumL_nonneg fun x _ => Int.mul_nonneg (ind_nonneg _) (ind_nonneg _)
    obtain ⟨m, hm⟩ := Int.eq_ofNat_of_zero_le hpos
    exact ⟨m, ⟨pick_set _ (by omega) (by omega), fun n h1 h2 => by rw [key n h1 h2, hm], fun e => absurd e hv⟩, fun _ => hm.symm⟩
/-- Moved and multiplied. -/
def movF (v g s x : Nat) : Nat := (x * g + s) % v
def movL (v g s : Nat) (xs : List Int) : List Int := sortI (xs.map fun x => (x * g + s) % (v : Int))
theorem mov_inj {v g s : Nat} (hg : Nat.gcd g v = 1) : ∀ x y, x < v → y < v → movF v g s x = movF v g s y → x = y := by
  intro x y hx hy h
  unfold movF at h
  have key : ∀ a b, a < v → b ≤ a → (a * g + s) % v = (b * g + s) % v → a = b := by
    intro a b ha hba h
    have hle : b * g ≤ a * g := Nat.mul_le_mul_right g hba
    have h2 := dvd_mod h (by omega)
    rw [show a * g + s - (b * g + s) = a * g - b * g by omega, ← Nat.sub_mul] at h2
    have h3 : v ∣ a - b := Nat.Coprime.dvd_of_dvd_mul_right (by rw [Nat.Coprime, Nat.gcd_comm]; exact hg) h2
    have := Nat.eq_zero_of_dvd_of_lt h3 (by omega)
    omega
  rcases Nat.le_total y x with h4 | h4
  · exact key x y hx h4 h
  · exact (key y x hy h4 h.symm).symm
theorem mov_int {v g s x : Nat} : (((x : Int) * g + s) % (v : Int)) = ((movF v g s x : Nat) : Int) := by
  unfold movF; rw [Int.natCast_emod, Int.natCast_add, Int.natCast_mul]
theorem mov_mem {v g s : Nat} {xs : List Int} (h : IsSet v xs) (hg : Nat.gcd g v = 1) {x : Nat} (hx : x < v) : mem (movL v g s xs) (movF v g s x : Int) = mem xs (x : Int) := by
  rw [Bool.eq_iff_iff, mem_iff, mem_iff]
  unfold movL
  rw [sortI_mem, List.mem_map]
  constructor
  · rintro ⟨a, ha, e⟩
    obtain ⟨i, hi, rfl⟩ := ix_of_mem ha
    have hr := h.rng i hi
    obtain ⟨b, hb⟩ := Int.eq_ofNat_of_zero_le hr.1
    rw [hb] at e ha hr
    rw [mov_int] at e
    have := mov_inj (s := s) hg b x (by omega) hx (by omega)
    subst this; exact ha
  · intro hm; exact ⟨x, hm, mov_int⟩
theorem mov_nodup {v g s : Nat} {xs : List Int} (h : IsSet v xs) (hg : Nat.gcd g v = 1) : (xs.map fun x => (x * g + s) % (v : Int)).Nodup := by
  rw [List.Nodup, List.pairwise_map]
  refine List.Pairwise.imp_of_mem ?_ (inc_pair h.inc)
  intro a b ha hb hlt e
  obtain ⟨i, hi, rfl⟩ := ix_of_mem ha
  obtain ⟨j, hj, rfl⟩ := ix_of_mem hb
  have ri := h.rng i hi
  have rj := h.rng j hj
  obtain ⟨a, ha⟩ := Int.eq_ofNat_of_zero_le ri.1
  obtain ⟨b, hb⟩ := Int.eq_ofNat_of_zero_le rj.1
  rw [ha, hb, mov_int, mov_int] at e
  rw [ha] at ri; rw [hb] at rj
  have := mov_inj (s := s) hg a b (by omega) (by omega) (by omega)
  omega
theorem mov_pick {v g s : Nat} {xs : List Int} (h : IsSet v xs) (hg : Nat.gcd g v = 1) : movL v g s xs = pickL (fun y => mem (movL v g s xs) (y : Int)) v := by
  have hlo := h.lo
  refine rise_pick (sortI_lt (mov_nodup h hg)) (fun x hx => ?_) fun y _ => mem_iff _ _
  unfold movL at hx
  rw [sortI_mem, List.mem_map] at hx
  obtain ⟨a, _, rfl⟩ := hx
  exact ⟨Int.emod_nonneg _ (by omega), Int.emod_lt_of_pos _ (by omega)⟩
theorem mov_set {v g s : Nat} {xs : List Int} (h : IsSet v xs) (hg : Nat.gcd g v = 1) : IsSet v (movL v g s xs) := by
  rw [mov_pick h hg]; exact pick_set _ (by have := h.lo; omega) (by have := h.hi; omega)
theorem mov_len (v g s : Nat) (xs : List Int) : (movL v g s xs).length = xs.length := by unfold movL; rw [sortI_len, List.length_map]
theorem DLev.mov {v l g s : Nat} {xs : List Int} (h : DLev v xs l) (hg : Nat.gcd g v = 1) : DLev v (movL v g s xs) l := by
  refine ⟨mov_set h.set hg, fun n h1 h2 => ?_, h.one⟩
  have hv : 0 < v := by omega
  have hr : ∀ s x, x < v → movF v g s x < v := fun s x _ => Nat.mod_lt _ hv
  -- what is multiplied to n
  obtain ⟨m, hm, em⟩ := perm_onto (π := movF v g 0) (hr 0) (mov_inj hg) h2
  have hm1 : 1 ≤ m := by
    refine Classical.byContradiction fun hc => ?_
    obtain rfl : m = 0 := by omega
    unfold movF at em
    rw [Nat.zero_mul, Nat.zero_add, Nat.zero_mod] at em
    omega
  rw [← h.all m hm1 hm]
  unfold dif
  rw [← perm_sum (hr s) (mov_inj (s := s) hg) (fun y => ch (movL v g s xs) y * ch (movL v g s xs) ((y + n) % v))]
  refine sumL_congr fun x hx => ?_
  rw [List.mem_range] at hx
  have e1 : ch (movL v g s xs) (movF v g s x) = ch xs x := by unfold ch; rw [mov_mem h.set hg hx]
  have hxm : (x + m) % v < v := Nat.mod_lt _ hv
  have e2 : (movF v g s x + n) % v = movF v g s ((x + m) % v) := by
    rw [← em]
    unfold movF
    rw [Nat.add_zero, ← Nat.add_mod]
    have : ((x + m) % v * g + s) % v = ((x + m) * g + s) % v := by
      rw [Nat.add_mod, Nat.mod_mul_mod, ← Nat.add_mod]
    rw [this]
    congr 1
    rw [Nat.add_mul]; omega
  have e3 : ch (movL v g s xs) ((movF v g s x + n) % v) = ch xs ((x + m) % v) := by
    rw [e2]; unfold ch; rw [mov_mem h.set hg hxm]
  rw [e1, e3]
end Go.Proofs.YtdbfpdhcaiiiaaaDoor

namespace Go.Proofs.YtdbfpdhcaiiiaaaDoor
open Go.RowKit

/-- The numbers moved, not yet sorted. -/
def mvTo (v g s : Nat) (xs : List Int) (k : Nat) : List Int := (xs.take k).map fun x => (x * g + s) % (v : Int)
theorem mvTo_succ {v g s : Nat} {xs : List Int} {k : Nat} (h : k < xs.length) : mvTo v g s xs (k + 1) = mvTo v g s xs k ++ [(ix xs k * g + s) % (v : Int)] := by
  unfold mvTo; rw [take_succ_ix h, List.map_append]; rfl
theorem mvTo_len {v g s : Nat} {xs : List Int} {k : Nat} (h : k ≤ xs.length) : (mvTo v g s xs k).length = k := by unfold mvTo; rw [List.length_map, List.length_take]; omega
theorem mvTo_all (v g s : Nat) (xs : List Int) : sortI (mvTo v g s xs xs.length) = movL v g s xs := by unfold mvTo movL; rw [List.take_length]
theorem mv_val {n t s x : Nat} (hx : x < 60) (ht : t ≤ 200) :
    Value.int .i64 (wrap64 ((x : Int) * (t : Int))) = Value.int .i64 ((x * t : Nat) : Int) ∧ x * t ≤ 12000 ∧ (((x * t : Nat) : Int) + s) % (n : Int) = (((x : Int) * t + s) % (n : Int)) := by
  have h : x * t ≤ 60 * 200 := Nat.mul_le_mul (by omega) ht
  refine ⟨?_, by omega, by rw [Int.natCast_mul]⟩
  rw [← Int.natCast_mul, IntWalk.wrap64_in _ (by omega)]

set_option maxRecDepth 100000 in
set_option maxHeartbeats 2000000 in
theorem shifted_any (n t s : Nat) (v : Value) (xs : List Int) (w : World) (h : IntsAt w v xs) (hS : IsSet n xs) (ht : t ≤ 200) (hs : s ≤ 200) :
    Calls Tryd.prog 43 #[.int .i64 (n : Nat), v, .int .i64 (t : Nat), .int .i64 (s : Nat)] w fun e w' => ∃ u, e = .returned u ∧ Own w' w.heap.size 3 u (movL n t s xs) ∧ Below w.heap.size w w' := by
  have HS := Lib.hid hS
  have hn1 := hS.lo; have hn2 := hS.hi
  have hl : (xs.length : Int) ≤ n := inc_len hS.rng hS.inc (by omega)
  obtain ⟨a, c, rfl, h1, h2, _, h3⟩ := h
  have HX := Lib.hid h3; clear h3 hS
  go_enter Tryd.func43, Tryd.ntmps43
  go_wp2_with fail
  go_loopw [10, 9] (fun q l wr => ∃ (i : Nat) (z : Value), i ≤ xs.length ∧ q = .int .i64 i ∧ l = z ∧ Own wr w.heap.size 3 z (mvTo n t s xs i) ∧ Below w.heap.size w wr) (fun q _ _ => xs.length - (intOf q).toNat)
  case atStart => exact ⟨0, _, by omega, rfl, rfl, own_nil _ _ _, Below.refl _ _⟩
  case round =>
    obtain ⟨i, z, hi, rfl, hz, hO, hB⟩ := hrel
    subst hz
    have HO := Lib.hid hO; have HB := Lib.hid hB
    have hsz := hB.size
    have hml := mvTo_len (v := n) (g := t) (s := s) hi
    clear hO hB
    by_cases hlt : i < xs.length
    · obtain ⟨b, o, rfl, hb, hc⟩ := HX.out i hlt
      have hcell := hc i hlt
      rw [← (bcell HB.out).1 _ _ hb] at hcell
      clear hc
      have hr := HS.out.rng i hlt
      obtain ⟨x, hx⟩ := Int.eq_ofNat_of_zero_le hr.1
      have HM : Hid (mvTo n t s xs (i + 1) = mvTo n t s xs i ++ [((x : Int) * t + s) % (n : Int)]) := by show _ = _; rw [mvTo_succ hlt, hx]
      rw [hx] at hcell hr
      obtain ⟨hv1, hv2, hv3⟩ := mv_val (n := n) (t := t) (s := s) (x := x) (by omega) ht
      rw [← hv3] at HM
      have hm0 : ¬ n = 0 := by omega
      clear hx hv3
      obtain ⟨P, hP⟩ : ∃ P, P = x * t := ⟨_, rfl⟩
      rw [← hP] at hv1 hv2 HM
      have hw : IntKind.i64.wrap ((((P : Nat) : Int) + s) % (n : Int)) = (((P : Nat) : Int) + s) % (n : Int) := by
        have q1 : 0 ≤ (((P : Nat) : Int) + s) % (n : Int) := Int.emod_nonneg _ (by omega)
        have q2 : (((P : Nat) : Int) + s) % (n : Int) < n := Int.emod_lt_of_pos _ (by omega)
        exact IntWalk.i64_in _ (by omega)
      have HWr := Lib.hid hw
      clear hP hw
      go_wp2_with (at_builtin; refine app_own rfl _ _ rfl rfl (HO.out.alloc _) _ _ rfl (by rw [World.cell?_alloc_new]; rfl) (by omega) (by rw [World.size_alloc]; omega) ?_; intro v' w1 hown1 hgrow)
      have HO1 := Lib.hid hown1
      have HB1 := Lib.hid ((HB.out.alloc hsz _).grown hgrow (by rw [World.size_alloc]; omega) (fun k hk => (HO.out.block k hk).1))
      clear hown1 hgrow
      go_roundw
      case rel => exact ⟨i + 1, _, by omega, by go_num, rfl, by rw [HM.out]; exact HO1.out, HB1.out⟩
      case measure => simp [intOf]; omega
    · obtain rfl : i = xs.length := by omega
      have HSo := Lib.hid (sorted_any _ _ _ (HO.out.intsAt (by omega)) (by omega))
      rw [mvTo_all] at HSo
      obtain ⟨za, zl, zc, rfl⟩ := HO.out.shape
      go_wp2_with fail
      refine (HSo.out).mono ?_
      rintro e w2 ⟨u, rfl, hown, hb⟩
      have HO2 := Lib.hid (hown.base hsz)
      have HB2 := Lib.hid (belowTrans HB.out hb)
      obtain ⟨ua, ul, uc, rfl⟩ := hown.shape
      clear hown hb
      go_wp2_with fail
      go_ret
      exact ⟨_, rfl, HO2.out, HB2.out⟩
end Go.Proofs.YtdbfpdhcaiiiaaaDoor

namespace Go.Proofs.YtdbfpdhcaiiiaaaDoor
open Go.RowKit

set_option maxRecDepth 100000 in
set_option maxHeartbeats 2000000 in
theorem changed_any (n t s : Nat) (v : Value) (xs : List Int) (w : World) (h : IntsAt w v xs) (hS : IsSet n xs) (ht : t ≤ 200) (hs : s ≤ 200) :
    Calls Tryd.prog 42 #[.int .i64 (n : Nat), v, .int .i64 (t : Nat), .int .i64 (s : Nat)] w fun e w' => ∃ u, e = .returned u ∧ Own w' w.heap.size 3 u (movL n t s xs) ∧ Below w.heap.size w w' := by
  have HS := Lib.hid hS
  have hn1 := hS.lo; have hn2 := hS.hi
  have hl : (xs.length : Int) ≤ n := inc_len hS.rng hS.inc (by omega)
  obtain ⟨a, c, rfl, h1, h2, _, h3⟩ := h
  have HX := Lib.hid h3; clear h3 hS
  go_enter Tryd.func42, Tryd.ntmps42
  go_wp2_with fail
  go_loopw [14, 9] (fun q l wr => ∃ (i : Nat) (z : Value), i ≤ xs.length ∧ q = .int .i64 i ∧ l = z ∧ Own wr w.heap.size 3 z (mvTo n t s xs i) ∧ Below w.heap.size w wr) (fun q _ _ => xs.length - (intOf q).toNat)
  case atStart => exact ⟨0, _, by omega, rfl, rfl, own_nil _ _ _, Below.refl _ _⟩
  case round =>
    obtain ⟨i, z, hi, rfl, hz, hO, hB⟩ := hrel
    subst hz
    have HO := Lib.hid hO; have HB := Lib.hid hB
    have hsz := hB.size
    have hml := mvTo_len (v := n) (g := t) (s := s) hi
    clear hO hB
    by_cases hlt : i < xs.length
    · obtain ⟨b, o, rfl, hb, hc⟩ := HX.out i hlt
      have hcell := hc i hlt
      rw [← (bcell HB.out).1 _ _ hb] at hcell
      clear hc
      have hr := HS.out.rng i hlt
      obtain ⟨x, hx⟩ := Int.eq_ofNat_of_zero_le hr.1
      have HM : Hid (mvTo n t s xs (i + 1) = mvTo n t s xs i ++ [((x : Int) * t + s) % (n : Int)]) := by show _ = _; rw [mvTo_succ hlt, hx]
      rw [hx] at hcell hr
      obtain ⟨hv1, hv2, hv3⟩ := mv_val (n := n) (t := t) (s := s) (x := x) (by omega) ht
      rw [← hv3] at HM
      have hm0 : ¬ n = 0 := by omega
      clear hx hv3
      obtain ⟨P, hP⟩ : ∃ P, P = x * t := ⟨_, rfl⟩
      rw [← hP] at hv1 hv2 HM
      have hw : IntKind.i64.wrap ((((P : Nat) : Int) + s) % (n : Int)) = (((P : Nat) : Int) + s) % (n : Int) := by
        have q1 : 0 ≤ (((P : Nat) : Int) + s) % (n : Int) := Int.emod_nonneg _ (by omega)
        have q2 : (((P : Nat) : Int) + s) % (n : Int) < n := Int.emod_lt_of_pos _ (by omega)
        exact IntWalk.i64_in _ (by omega)
      have HWr := Lib.hid hw
      clear hP hw
      go_wp2_with (at_builtin; refine app_own rfl _ _ rfl rfl (HO.out.alloc _) _ _ rfl (by rw [World.cell?_alloc_new]; rfl) (by omega) (by rw [World.size_alloc]; omega) ?_; intro v' w1 hown1 hgrow)
      have HO1 := Lib.hid hown1
      have HB1 := Lib.hid ((HB.out.alloc hsz _).grown hgrow (by rw [World.size_alloc]; omega) (fun k hk => (HO.out.block k hk).1))
      clear hown1 hgrow
      go_roundw
      case rel => exact ⟨i + 1, _, by omega, by go_num, rfl, by rw [HM.out]; exact HO1.out, HB1.out⟩
      case measure => simp [intOf]; omega
    · obtain rfl : i = xs.length := by omega
      have HSo := Lib.hid (sort_own HO.out (by omega))
      rw [mvTo_all] at HSo
      obtain ⟨za, zl, zc, rfl⟩ := HO.out.shape
      go_wp2_with fail
      refine (HSo.out).mono ?_
      rintro e w2 ⟨rfl, hown, hgr⟩
      have HO2 := Lib.hid hown
      have HB2 := Lib.hid (HB.out.grown hgr hsz (fun k hk => (HO.out.block k hk).1))
      clear hown hgr
      go_wp2_with fail
      go_ret
      exact ⟨_, rfl, HO2.out, HB2.out⟩
end Go.Proofs.YtdbfpdhcaiiiaaaDoor

namespace Go.Proofs.YtdbfpdhcaiiiaaaDoor
open Go.RowKit

theorem dcheck1_any (x n : Int) (b : Nat) (w : World) (hc : w.cell? ⟨b, 0, none⟩ = some (.int .i64 n)) :
    Calls Tryd.prog 62 #[.int .i64 x, .pointer (some ⟨b, 0, none⟩)] w fun e w' => e = .returned (.bool (outV n x)) ∧ w = w' := by
  by_cases h1 : x < 0
  · have ed : decide (x < 0) = true := by simpa using h1
    go_enter Tryd.func62, Tryd.ntmps62
    go_wp2
    go_ret
    exact ⟨ret_bool (outV_neg h1).symm, rfl⟩
  · have Ho := Lib.hid (outV_pos (n := n) h1)
    have ed : decide (x < 0) = false := by simpa using h1
    cases e2 : decide (n ≤ x)
    all_goals
      rw [e2] at Ho
      go_enter Tryd.func62, Tryd.ntmps62
      go_wp2
      go_ret
      exact ⟨ret_bool Ho.out.symm, rfl⟩
theorem enters_dcheck (args : Array Value) (w : World) : (callFunc 62 args).run Tryd.prog w = .ok (.enter 62 args) w := by kernel_rfl

set_option maxHeartbeats 1000000 in
theorem dcheck_any (n : Int) (v : Value) (xs : List Int) (w : World) (h : IntsAt w v xs) :
    Calls Tryd.prog 39 #[.int .i64 n, v] w fun e w' => e = .returned (.int .i64 (setFault n xs)) ∧ Below w.heap.size w w' := by
  have HB := Lib.hid (below_box w (.cells #[.int .i64 n] 3))
  have HI := Lib.hid (h.below HB.out)
  have HK : Hid ((w.alloc (.cells #[.int .i64 n] 3)).cell? ⟨w.heap.size, 0, none⟩ = some (.int .i64 n)) := World.cell?_alloc_new w #[.int .i64 n] 3 0
  by_cases s1 : n < 1 ∨ 60 < n
  · have H : Hid (setFault n xs = 1) := by show _ = _; unfold setFault; rw [if_pos s1]
    by_cases s2 : n < 1
    · have ed : decide (n < 1) = true := by simpa using s2
      go_enter Tryd.func39, Tryd.ntmps39
      go_wp2
      go_ret
      exact ⟨ret_int H.out.symm, HB.out⟩
    · have ed : decide (n < 1) = false := by simpa using s2
      have ed2 : decide (60 < n) = true := by simp; omega
      go_enter Tryd.func39, Tryd.ntmps39
      go_wp2
      go_ret
      exact ⟨ret_int H.out.symm, HB.out⟩
  · have ed : decide (n < 1) = false := by simp; omega
    have ed2 : decide (60 < n) = false := by simp; omega
    have H0 : Hid (setFault n xs = if anyB (outV n) xs then 1 else if incB xs then 0 else 2) := by show _ = _; unfold setFault; rw [if_neg s1]
    have hcf := containsFunc_any 62 enters_dcheck (.pointer (some ⟨w.heap.size, 0, none⟩)) (outV n) _ xs _ HI.out (fun x => dcheck1_any x n _ _ HK.out)
    obtain ⟨a, c, rfl, h1, h2, _, h3⟩ := h
    cases ea : anyB (outV n) xs
    · have HA := Lib.hid ea
      rw [ea] at hcf
      have Hcf := Lib.hid hcf; clear hcf ea
      go_enter Tryd.func39, Tryd.ntmps39
      go_wp2_with (go_at_call 57; refine (Hcf.out).mono ?_; rintro e w' ⟨rfl, rfl⟩)
      go_loopw [5] (fun s wr => ∃ k nd : Nat, (k + 1 ≤ xs.length ∨ k = 0) ∧ s = .int .i64 ((k : Int) + 1) ∧ notInc xs k = false ∧ wr = (w.alloc (.cells #[.int .i64 n] 3)).drewN nd) (fun s _ => xs.length + 1 - (intOf s).toNat)
      case atStart => exact ⟨0, 0, .inr rfl, rfl, rfl, rfl⟩
      case round =>
        obtain ⟨k, nd, hk, rfl, hn, rfl⟩ := hrel
        have HN := Lib.hid hn; clear hn
        by_cases hlt : k + 1 < xs.length
        · obtain ⟨b, o, rfl, hb, hc⟩ := h3 k (by omega)
          have c1 := hc k (by omega)
          have c2 := hc (k + 1) hlt
          have i1 : (0 : Int) ≤ (k : Int) + 1 := by omega
          have i2 : (k : Int) + 1 < (xs.length : Int) := by omega
          have i3 : ((k : Int) + 1).toNat = k + 1 := by omega
          have i4 : IntKind.i64.wrap ((k : Int) + 1 - 1) = (k : Int) := by rw [show (k : Int) + 1 - 1 = (k : Int) by omega]; exact IntWalk.i64_in _ (by omega)
          have i5 : (k : Int) < (xs.length : Int) := by omega
          have HS : Hid (notInc xs (k + 1) = (notInc xs k || decide (ix xs (k + 1) ≤ ix xs k))) := rfl
          clear hc h3
          cases ed3 : decide (ix xs (k + 1) ≤ ix xs k)
          · have Hd := Lib.hid ed3
            go_wp2_with fail
            go_quiet (fail)
            go_wp2_with fail
            go_roundw
            case rel => exact ⟨k + 1, _, .inl (by omega), by go_num, by rw [HS.out, HN.out, Hd.out]; rfl, rfl⟩
            case measure => simp [intOf]; omega
          · have Hbad : Hid (incB xs = false) := by show _ = _; unfold incB; rw [notInc_hit (show k < xs.length - 1 by omega) (by simpa using ed3)]; rfl
            go_wp2_with fail
            go_quiet (fail)
            go_wp2_with fail
            go_ret
            exact ⟨ret_int (by rw [H0.out, HA.out, Hbad.out]; rfl), below_boxDD _ _ _ _⟩
        · have Hok : Hid (incB xs = true) := by
            show _ = _; unfold incB
            have : k = xs.length - 1 := by omega
            rw [← this, HN.out]; rfl
          have i2 : ¬ ((k : Int) + 1 < (xs.length : Int)) := by omega
          go_wp2_with fail
          go_ret
          exact ⟨ret_int (by rw [H0.out, HA.out, Hok.out]; rfl), below_drewN HB.out _⟩
    · have HA := Lib.hid ea
      rw [ea] at hcf
      have Hcf := Lib.hid hcf; clear hcf ea
      go_enter Tryd.func39, Tryd.ntmps39
      go_wp2_with (go_at_call 57; refine (Hcf.out).mono ?_; rintro e w' ⟨rfl, rfl⟩)
      go_ret
      exact ⟨ret_int (by rw [H0.out, HA.out]; rfl), HB.out⟩

theorem notInc_done {xs : List Int} {k : Nat} (h : notInc xs k = false) (hk : ¬ k + 1 < xs.length) (hk2 : k + 1 ≤ xs.length ∨ k = 0) : incB xs = true := by
  unfold incB
  have : k = xs.length - 1 := by omega
  rw [← this, h]; rfl
theorem anyV_hit {n : Int} {xs : List Int} {j : Nat} (hj : j < xs.length) (e : outV n (ix xs j) = true) : anyB (outV n) xs = true := any_of_hit hj e

set_option maxHeartbeats 1000000 in
theorem setFault_any (n : Int) (v : Value) (xs : List Int) (w : World) (h : IntsAt w v xs) :
    Calls Tryd.prog 18 #[.int .i64 n, v] w fun e w' => e = .returned (.int .i64 (setFault n xs)) ∧ Below w.heap.size w w' := by
  obtain ⟨a, c, rfl, h1, h2, _, h3⟩ := h
  have HX := Lib.hid h3; clear h3
  by_cases s1 : n < 1 ∨ 60 < n
  · have H : Hid (setFault n xs = 1) := by show _ = _; unfold setFault; rw [if_pos s1]
    by_cases s2 : n < 1
    · have ed : decide (n < 1) = true := by simpa using s2
      go_enter Tryd.func18, Tryd.ntmps18
      go_wp2
      go_ret
      exact ⟨ret_int H.out.symm, Below.refl _ _⟩
    · have ed : decide (n < 1) = false := by simpa using s2
      have ed2 : decide (60 < n) = true := by simp; omega
      go_enter Tryd.func18, Tryd.ntmps18
      go_wp2
      go_ret
      exact ⟨ret_int H.out.symm, Below.refl _ _⟩
  · have ed : decide (n < 1) = false := by simp; omega
    have ed2 : decide (60 < n) = false := by simp; omega
    have H0 : Hid (setFault n xs = if anyB (outV n) xs then 1 else if incB xs then 0 else 2) := by show _ = _; unfold setFault; rw [if_neg s1]
    go_enter Tryd.func18, Tryd.ntmps18
    go_wp2_with fail
    go_loop [5] (fun s => ∃ k : Nat, k ≤ xs.length ∧ s = .int .i64 k ∧ anyB (outV n) (xs.take k) = false) (fun s => xs.length - (intOf s).toNat)
    case atStart => exact ⟨0, by omega, rfl, by simp [anyB]⟩
    case round =>
      obtain ⟨k, hk, rfl, hn⟩ := hrel
      have HN := Lib.hid hn; clear hn
      by_cases hlt : k < xs.length
      · obtain ⟨b, o, rfl, hb, hc⟩ := HX.out k hlt
        have hcell := hc k hlt
        clear hc
        by_cases x1 : ix xs k < 0
        · have ed3 : decide (ix xs k < 0) = true := by simpa using x1
          have Hbad := Lib.hid (anyV_hit (n := n) hlt (outV_neg x1))
          go_wp2_with fail
          go_ret
          exact ⟨ret_int (by rw [H0.out, Hbad.out]; rfl), Below.refl _ _⟩
        · have ed3 : decide (ix xs k < 0) = false := by simpa using x1
          cases ed4 : decide (n ≤ ix xs k)
          · have Hok : Hid (outV n (ix xs k) = false) := by show _ = _; rw [outV_pos x1, ed4]
            go_wp2_with fail
            go_round
            case rel => exact ⟨k + 1, by omega, by go_num, by rw [any_take hlt, HN.out, Hok.out]; rfl⟩
            case measure => simp [intOf]; omega
          · have Hbad := Lib.hid (anyV_hit (n := n) hlt (by rw [outV_pos x1, ed4]))
            go_wp2_with fail
            go_ret
            exact ⟨ret_int (by rw [H0.out, Hbad.out]; rfl), Below.refl _ _⟩
      · obtain rfl : k = xs.length := by omega
        have HA : Hid (anyB (outV n) xs = false) := by show _ = _; have := HN.out; rw [List.take_length] at this; exact this
        go_wp2_with fail
        go_loopw [6] (fun s wr => ∃ k nd : Nat, (k + 1 ≤ xs.length ∨ k = 0) ∧ s = .int .i64 ((k : Int) + 1) ∧ notInc xs k = false ∧ wr = w.drewN nd) (fun s _ => xs.length + 1 - (intOf s).toNat)
        case atStart => exact ⟨0, 0, .inr rfl, rfl, rfl, rfl⟩
        case round =>
          obtain ⟨k, nd, hk, rfl, hn, rfl⟩ := hrel
          have HN := Lib.hid hn; clear hn
          by_cases hlt : k + 1 < xs.length
          · obtain ⟨b, o, rfl, hb, hc⟩ := HX.out k (by omega)
            have c1 := hc k (by omega)
            have c2 := hc (k + 1) hlt
            have i1 : (0 : Int) ≤ (k : Int) + 1 := by omega
            have i2 : (k : Int) + 1 < (xs.length : Int) := by omega
            have i3 : ((k : Int) + 1).toNat = k + 1 := by omega
            have i4 : IntKind.i64.wrap ((k : Int) + 1 - 1) = (k : Int) := by rw [show (k : Int) + 1 - 1 = (k : Int) by omega]; exact IntWalk.i64_in _ (by omega)
            have i5 : (k : Int) < (xs.length : Int) := by omega
            have HS : Hid (notInc xs (k + 1) = (notInc xs k || decide (ix xs (k + 1) ≤ ix xs k))) := rfl
            clear hc
            cases ed3 : decide (ix xs (k + 1) ≤ ix xs k)
            · have Hd := Lib.hid ed3
              go_wp2_with fail
              go_quiet (fail)
              go_wp2_with fail
              go_roundw
              case rel => exact ⟨k + 1, _, .inl (by omega), by go_num, by rw [HS.out, HN.out, Hd.out]; rfl, rfl⟩
              case measure => simp [intOf]; omega
            · have Hbad : Hid (incB xs = false) := by show _ = _; unfold incB; rw [notInc_hit (show k < xs.length - 1 by omega) (by simpa using ed3)]; rfl
              go_wp2_with fail
              go_quiet (fail)
              go_wp2_with fail
              go_ret
              exact ⟨ret_int (by rw [H0.out, HA.out, Hbad.out]; rfl), below_drewN (below_D _ _) _⟩
          · have Hok := Lib.hid (notInc_done HN.out hlt hk)
            have i2 : ¬ ((k : Int) + 1 < (xs.length : Int)) := by omega
            go_wp2_with fail
            go_ret
            exact ⟨ret_int (by rw [H0.out, HA.out, Hok.out]; rfl), below_D _ _⟩
end Go.Proofs.YtdbfpdhcaiiiaaaDoor
