/-
  Plain laws: what is left out of a set of a level, and what is moved or multiplied, is of a level. No program in sight. No condition.
-/
import Derived.Test.YtnmgambilpoeiaaDiffLaw
import Derived.Test.YtnmgambilpoeiaaSortC
namespace Go.Proofs.Ytnmgambilpoeiaa
open Go.RowKit

/-- A sum over all, in another order. -/
theorem perm_sum {v : Nat} {π : Nat → Nat} (hr : ∀ x, x < v → π x < v) (hi : ∀ x y, x < v → y < v → π x = π y → x = y) (F : Nat → Int) :
    sumL (List.range v) (fun x => F (π x)) = sumL (List.range v) F := by
  have h1 : ∀ y, sumL (List.range v) (fun x => ind (y == π x)) ≤ 1 := by
    intro y
    by_cases e : ∃ x, x < v ∧ π x = y
    · obtain ⟨x0, hx0, e⟩ := e
      have : ∀ x, x ∈ List.range v → ind (y == π x) = ind (x == x0) * 1 := by
        intro x hx
        rw [List.mem_range] at hx
        rw [Int.mul_one]
        refine ind_iff ?_
        rw [beq_iff_eq, beq_iff_eq]
        constructor
        · intro e2; exact hi x x0 hx hx0 (by omega)
        · rintro rfl; exact e.symm
      rw [sumL_congr this, sum_one (fun _ => 1) hx0]; exact Int.le_refl _
    · have : ∀ x, x ∈ List.range v → ind (y == π x) = 0 := by
        intro x hx
        rw [List.mem_range] at hx
        have : (y == π x) = false := by simp; intro e2; exact e ⟨x, hx, e2.symm⟩
        rw [this]; rfl
      rw [sumL_congr this, sumL_zero]; decide
  have h2 : sumL (List.range v) (fun y => sumL (List.range v) (fun x => ind (y == π x))) = v := by
    rw [sumL_swap]
    have : ∀ x, x ∈ List.range v → sumL (List.range v) (fun y => ind (y == π x)) = 1 := by
      intro x hx
      rw [List.mem_range] at hx
      have := sum_one (fun _ => 1) (hr x hx)
      rw [← this]
      exact sumL_congr fun y _ => (Int.mul_one _).symm
    rw [sumL_congr this, sumL_const, List.length_range]; omega
  have h3 : ∀ y, y ∈ List.range v → sumL (List.range v) (fun x => ind (y == π x)) = 1 := by
    have e0 : sumL (List.range v) (fun y => 1 - sumL (List.range v) (fun x => ind (y == π x))) = 0 := by
      rw [sumL_sub, h2, sumL_const, List.length_range]; omega
    intro y hy
    have := sumL_null (fun y _ => by have := h1 y; omega) e0 y hy
    omega
  have h4 : ∀ x, x ∈ List.range v → F (π x) = sumL (List.range v) (fun y => ind (y == π x) * F y) := by
    intro x hx
    rw [List.mem_range] at hx
    exact (sum_one F (hr x hx)).symm
  rw [sumL_congr h4, sumL_swap]
  refine sumL_congr fun y hy => ?_
  rw [sumL_mulr, h3 y hy, Int.one_mul]
/-- What is reached by all, reaches all. -/
theorem perm_onto {v : Nat} {π : Nat → Nat} (hr : ∀ x, x < v → π x < v) (hi : ∀ x y, x < v → y < v → π x = π y → x = y) {y : Nat} (hy : y < v) : ∃ x, x < v ∧ π x = y := by
  refine Classical.byContradiction fun hno => ?_
  have h := perm_sum hr hi (fun z => ind (z == y) * 1)
  rw [sum_one (fun _ => 1) hy] at h
  have : sumL (List.range v) (fun x => ind (π x == y) * 1) = 0 := by
    rw [← sumL_zero (List.range v)]
    refine sumL_congr fun x hx => ?_
    have : (π x == y) = false := by simp; intro e; exact hno ⟨x, List.mem_range.1 hx, e⟩
    rw [this]; rfl
  rw [this] at h; cases h
theorem dvd_mod {a b v : Nat} (h : a % v = b % v) (_ : b ≤ a) : v ∣ a - b := Nat.dvd_of_mod_eq_zero (Nat.sub_mod_eq_zero_of_mod_eq h)
theorem shift_inj {v n : Nat} : ∀ x y, x < v → y < v → (x + n) % v = (y + n) % v → x = y := by
  intro x y hx hy h
  have key : ∀ a b, a < v → b ≤ a → (a + n) % v = (b + n) % v → a = b := by
    intro a b ha hba h
    have h2 := dvd_mod h (by omega)
    rw [show a + n - (b + n) = a - b by omega] at h2
    have := Nat.eq_zero_of_dvd_of_lt h2 (by omega)
    omega
  rcases Nat.le_total y x with h4 | h4
  · exact key x y hx h4 h
  · exact (key y x hy h4 h.symm).symm
theorem ch_sum {v : Nat} {xs : List Int} (h : IsSet v xs) : sumL (List.range v) (fun x => ch xs x) = xs.length := by
  have := set_sum h (fun _ => 1)
  rw [sumL_const, Int.one_mul] at this
  rw [this]
  exact sumL_congr fun y _ => (Int.mul_one _).symm
theorem ch_shift {v : Nat} {xs : List Int} (h : IsSet v xs) (n : Nat) : sumL (List.range v) (fun x => ch xs ((x + n) % v)) = xs.length := by
  rw [perm_sum (π := fun x => (x + n) % v) (fun x hx => Nat.mod_lt _ (by omega)) shift_inj (ch xs), ch_sum h]
/-- What is left out. -/
def restL (v : Nat) (xs : List Int) : List Int := pickL (fun x => !mem xs (x : Int)) v
theorem pick_set {v : Nat} (p : Nat → Bool) (h1 : 1 ≤ v) (h2 : v ≤ 60) : IsSet v (pickL p v) := by
  have hp := pickL_pair p v
  refine ⟨by omega, by omega, fun k hk => ?_, inc_of fun i j hij hj => ?_⟩
  · obtain ⟨j, a, _, e⟩ := mem_pickL.1 (ix_mem hk); omega
  · rw [List.pairwise_iff_getElem] at hp
    rw [ix_lt (by omega), ix_lt hj]; exact hp i j (by omega) hj hij
theorem DLev.rest {v l : Nat} {xs : List Int} (h : DLev v xs l) : ∃ m : Nat, DLev v (restL v xs) m ∧ (1 < v → (m : Int) = v - 2 * xs.length + l) := by
  have hlo := h.set.lo; have hhi := h.set.hi
  have hc : ∀ x, x < v → ch (restL v xs) x = 1 - ch xs x := fun x hx => by
    unfold ch restL
    rw [pickL_mem hx, ind_not]
  have key : ∀ n, 1 ≤ n → n < v → dif v (restL v xs) n = (v : Int) - 2 * xs.length + l := by
    intro n h1 h2
    unfold dif
    have e : ∀ x, x ∈ List.range v → ch (restL v xs) x * ch (restL v xs) ((x + n) % v) = 1 - ch xs x - ch xs ((x + n) % v) + ch xs x * ch xs ((x + n) % v) := by
      intro x hx
      rw [List.mem_range] at hx
      rw [hc x hx, hc _ (Nat.mod_lt _ (by omega))]
      generalize ch xs x = a; generalize ch xs ((x + n) % v) = b
      rw [Int.sub_mul, Int.one_mul, Int.mul_sub, Int.mul_one]; omega
    rw [sumL_congr e, sumL_add, sumL_sub, sumL_sub, ch_sum h.set, ch_shift h.set, sumL_const, List.length_range]
    have := h.all n h1 h2
    unfold dif at this
    rw [this]; omega
  by_cases hv : v = 1
  · subst hv
    exact ⟨0, ⟨pick_set _ (by omega) (by omega), fun n h1 h2 => by omega, fun _ => rfl⟩, fun h => by omega⟩
  · have hpos : 0 ≤ (v : Int) - 2 * xs.length + l := by
      rw [← key 1 (by omega) (by omega)]
      exact sumL_nonneg fun x _ => Int.mul_nonneg (ind_nonneg _) (ind_nonneg _)
    obtain ⟨m, hm⟩ := Int.eq_ofNat_of_zero_le hpos
    exact ⟨m, ⟨pick_set _ (by omega) (by omega), fun n h1 h2 => by rw [key n h1 h2, hm], fun e => absurd e hv⟩, fun _ => hm.symm⟩
/-- Moved and multiplied. -/
def movF (v g s x : Nat) : Nat := (x * g + s) % v
def movL (v g s : Nat) (xs : List Int) : List Int := sortI (xs.map fun x => (x * g + s) % (v : Int))
theorem mov_inj {v g s : Nat} (hg : Nat.gcd g v = 1) : ∀ x y, x < v → y < v → movF v g s x = movF v g s y → x = y := by
  intro x y hx hy h
  unfold movF at h
  have key : ∀ a b, a < v → b ≤ a → (a * g + s) % v = (b * g + s) % v → a = b := by
    intro a b ha hba h
    have hle : b * g ≤ a * g := Nat.mul_le_mul_right g hba
    have h2 := dvd_mod h (by omega)
    rw [show a * g + s - (b * g + s) = a * g - b * g by omega, ← Nat.sub_mul] at h2
    have h3 : v ∣ a - b := Nat.Coprime.dvd_of_dvd_mul_right (by rw [Nat.Coprime, Nat.gcd_comm]; exact hg) h2
    have := Nat.eq_zero_of_dvd_of_lt h3 (by omega)
    omega
  rcases Nat.le_total y x with h4 | h4
  · exact key x y hx h4 h
  · exact (key y x hy h4 h.symm).symm
theorem mov_int {v g s x : Nat} : (((x : Int) * g + s) % (v : Int)) = ((movF v g s x : Nat) : Int) := by
  unfold movF; rw [Int.natCast_emod, Int.natCast_add, Int.natCast_mul]
theorem mov_mem {v g s : Nat} {xs : List Int} (h : IsSet v xs) (hg : Nat.gcd g v = 1) {x : Nat} (hx : x < v) : mem (movL v g s xs) (movF v g s x : Int) = mem xs (x : Int) := by
  rw [Bool.eq_iff_iff, mem_iff, mem_iff]
  unfold movL
  rw [sortI_mem, List.mem_map]
  constructor
  · rintro ⟨a, ha, e⟩
    obtain ⟨i, hi, rfl⟩ := ix_of_mem ha
    have hr := h.rng i hi
    obtain ⟨b, hb⟩ := Int.eq_ofNat_of_zero_le hr.1
    rw [hb] at e ha hr
    rw [mov_int] at e
    have := mov_inj (s := s) hg b x (by omega) hx (by omega)
    subst this; exact ha
  · intro hm; exact ⟨x, hm, mov_int⟩
theorem mov_nodup {v g s : Nat} {xs : List Int} (h : IsSet v xs) (hg : Nat.gcd g v = 1) : (xs.map fun x => (x * g + s) % (v : Int)).Nodup := by
  rw [List.Nodup, List.pairwise_map]
  refine List.Pairwise.imp_of_mem ?_ (inc_pair h.inc)
  intro a b ha hb hlt e
  obtain ⟨i, hi, rfl⟩ := ix_of_mem ha
  obtain ⟨j, hj, rfl⟩ := ix_of_mem hb
  have ri := h.rng i hi
  have rj := h.rng j hj
  obtain ⟨a, ha⟩ := Int.eq_ofNat_of_zero_le ri.1
  obtain ⟨b, hb⟩ := Int.eq_ofNat_of_zero_le rj.1
  rw [ha, hb, mov_int, mov_int] at e
  rw [ha] at ri; rw [hb] at rj
  have := mov_inj (s := s) hg a b (by omega) (by omega) (by omega)
  omega
theorem mov_pick {v g s : Nat} {xs : List Int} (h : IsSet v xs) (hg : Nat.gcd g v = 1) : movL v g s xs = pickL (fun y => mem (movL v g s xs) (y : Int)) v := by
  have hlo := h.lo
  refine rise_pick (sortI_lt (mov_nodup h hg)) (fun x hx => ?_) fun y _ => mem_iff _ _
  unfold movL at hx
  rw [sortI_mem, List.mem_map] at hx
  obtain ⟨a, _, rfl⟩ := hx
  exact ⟨Int.emod_nonneg _ (by omega), Int.emod_lt_of_pos _ (by omega)⟩
theorem mov_set {v g s : Nat} {xs : List Int} (h : IsSet v xs) (hg : Nat.gcd g v = 1) : IsSet v (movL v g s xs) := by
  rw [mov_pick h hg]; exact pick_set _ (by have := h.lo; omega) (by have := h.hi; omega)
theorem mov_len (v g s : Nat) (xs : List Int) : (movL v g s xs).length = xs.length := by unfold movL; rw [sortI_len, List.length_map]
theorem DLev.mov {v l g s : Nat} {xs : List Int} (h : DLev v xs l) (hg : Nat.gcd g v = 1) : DLev v (movL v g s xs) l := by
  refine ⟨mov_set h.set hg, fun n h1 h2 => ?_, h.one⟩
  have hv : 0 < v := by omega
  have hr : ∀ s x, x < v → movF v g s x < v := fun s x _ => Nat.mod_lt _ hv
  -- what is multiplied to n
  obtain ⟨m, hm, em⟩ := perm_onto (π := movF v g 0) (hr 0) (mov_inj hg) h2
  have hm1 : 1 ≤ m := by
    refine Classical.byContradiction fun hc => ?_
    obtain rfl : m = 0 := by omega
    unfold movF at em
    rw [Nat.zero_mul, Nat.zero_add, Nat.zero_mod] at em
    omega
  rw [← h.all m hm1 hm]
  unfold dif
  rw [← perm_sum (hr s) (mov_inj (s := s) hg) (fun y => ch (movL v g s xs) y * ch (movL v g s xs) ((y + n) % v))]
  refine sumL_congr fun x hx => ?_
  rw [List.mem_range] at hx
  have e1 : ch (movL v g s xs) (movF v g s x) = ch xs x := by unfold ch; rw [mov_mem h.set hg hx]
  have hxm : (x + m) % v < v := Nat.mod_lt _ hv
  have e2 : (movF v g s x + n) % v = movF v g s ((x + m) % v) := by
    rw [← em]
    unfold movF
    rw [Nat.add_zero, ← Nat.add_mod]
    have : ((x + m) % v * g + s) % v = ((x + m) * g + s) % v := by
      rw [Nat.add_mod, Nat.mod_mul_mod, ← Nat.add_mod]
    rw [this]
    congr 1
    rw [Nat.add_mul]; omega
  have e3 : ch (movL v g s xs) ((movF v g s x + n) % v) = ch xs ((x + m) % v) := by
    rw [e2]; unfold ch; rw [mov_mem h.set hg hxm]
  rw [e1, e3]
end Go.Proofs.Ytnmgambilpoeiaa
