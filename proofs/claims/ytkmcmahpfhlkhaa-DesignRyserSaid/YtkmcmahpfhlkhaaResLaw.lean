/-
  The plain law of design.Residual: points outside a block, numbered. No condition.
-/
import Derived.Test.YtkmcmahpfhlkhaaRise
import Derived.Test.YtkmcmahpfhlkhaaResOf
namespace Go.Proofs.Ytkmcmahpfhlkhaa
open Go.RowKit

/-- How many numbers below y have the property. -/
def cntL (p : Nat → Bool) (y : Nat) : Nat := (pickL p y).length
theorem cntL_yes {p : Nat → Bool} {m : Nat} (h : p m = true) : cntL p (m + 1) = cntL p m + 1 := by unfold cntL; rw [pickL_yes h, List.length_append]; rfl
theorem cntL_no {p : Nat → Bool} {m : Nat} (h : p m = false) : cntL p (m + 1) = cntL p m := by unfold cntL; rw [pickL_no h]
theorem cntL_le (p : Nat → Bool) (m : Nat) : cntL p m ≤ m := pickL_len p m
theorem cntL_mono {p : Nat → Bool} {a b : Nat} (h : a ≤ b) : cntL p a ≤ cntL p b := by
  induction b with
  | zero => rw [show a = 0 by omega]; exact Nat.le_refl _
  | succ b ih =>
    by_cases e : a = b + 1
    · rw [e]; exact Nat.le_refl _
    · have := ih (by omega)
      cases q : p b
      · rw [cntL_no q]; exact this
      · rw [cntL_yes q]; omega
theorem cntL_lt {p : Nat → Bool} {a b : Nat} (ha : p a = true) (h : a < b) : cntL p a < cntL p b := by
  have := cntL_mono (p := p) (show a + 1 ≤ b by omega)
  rw [cntL_yes ha] at this; omega
theorem ix_app {xs ys : List Int} {i : Nat} (h : i < xs.length) : ix (xs ++ ys) i = ix xs i := by
  rw [ix_lt (by rw [List.length_append]; omega), ix_lt h, List.getElem_append_left h]
theorem ix_end (xs : List Int) (y : Int) : ix (xs ++ [y]) xs.length = y := by
  rw [ix_lt (by simp)]; simp
theorem pick_ix {p : Nat → Bool} {y : Nat} (hp : p y = true) : ∀ {n : Nat}, y < n → ix (pickL p n) (cntL p y) = (y : Int)
  | 0, h => by omega
  | n + 1, h => by
    by_cases e : y = n
    · subst e
      rw [pickL_yes hp]; exact ix_end _ _
    · have ih := pick_ix hp (n := n) (by omega)
      have hl : cntL p y < cntL p n := cntL_lt hp (by omega)
      cases q : p n
      · rw [pickL_no q]; exact ih
      · rw [pickL_yes q, ix_app hl]; exact ih
theorem pick_at {p : Nat → Bool} {n j : Nat} (h : j < cntL p n) : ∃ y, y < n ∧ p y = true ∧ cntL p y = j := by
  induction n with
  | zero => exact absurd h (by show ¬ j < 0; omega)
  | succ n ih =>
    cases q : p n
    · rw [cntL_no q] at h
      obtain ⟨y, h1, h2, h3⟩ := ih h
      exact ⟨y, by omega, h2, h3⟩
    · rw [cntL_yes q] at h
      by_cases e : j = cntL p n
      · exact ⟨n, by omega, q, e.symm⟩
      · obtain ⟨y, h1, h2, h3⟩ := ih (by omega)
        exact ⟨y, by omega, h2, h3⟩

/-- The numbers of the points: outside from nought on, inside -1; the first i of them. -/
def numV (b : List Int) (j : Nat) : Int := if mem b j then -1 else (cntL (offB b) j : Nat)
def numTo (b : List Int) (i j : Nat) : Int := if j < i then numV b j else 0
/-- What a row leaves outside. -/
def resG (b row : List Int) : Nat → List Int
  | 0 => []
  | j + 1 => if mem b (ix row j) then resG b row j else resG b row j ++ [(cntL (offB b) (ix row j).toNat : Int)]
theorem resG_in {b row : List Int} {j : Nat} (h : mem b (ix row j) = true) : resG b row (j + 1) = resG b row j := by rw [resG, h]; rfl
theorem resG_out {b row : List Int} {j : Nat} (h : mem b (ix row j) = false) : resG b row (j + 1) = resG b row j ++ [(cntL (offB b) (ix row j).toNat : Int)] := by rw [resG, h]; rfl
theorem resG_len (b row : List Int) : ∀ j, (resG b row j).length ≤ j
  | 0 => Nat.le_refl _
  | j + 1 => by
    have := resG_len b row j
    cases e : mem b (ix row j)
    · rw [resG_out e, List.length_append, List.length_singleton]; omega
    · rw [resG_in e]; omega
theorem resG_mem {b row : List Int} {y : Int} : ∀ {j : Nat}, y ∈ resG b row j ↔ ∃ i, i < j ∧ mem b (ix row i) = false ∧ y = (cntL (offB b) (ix row i).toNat : Int)
  | 0 => by simp [resG]
  | j + 1 => by
    have ih := resG_mem (b := b) (row := row) (y := y) (j := j)
    cases e : mem b (ix row j)
    · rw [resG_out e, List.mem_append, ih, List.mem_singleton]
      constructor
      · rintro (⟨i, h, q⟩ | h)
        · exact ⟨i, by omega, q⟩
        · exact ⟨j, by omega, e, h⟩
      · rintro ⟨i, h, q1, q2⟩
        by_cases ei : i = j
        · subst ei; exact .inr q2
        · exact .inl ⟨i, by omega, q1, q2⟩
    · rw [resG_in e, ih]
      constructor
      · rintro ⟨i, h, q⟩; exact ⟨i, by omega, q⟩
      · rintro ⟨i, h, q1, q2⟩
        by_cases ei : i = j
        · subst ei; rw [e] at q1; cases q1
        · exact ⟨i, by omega, q1, q2⟩
theorem off_of {b : List Int} {x : Int} {y : Nat} (e : x = (y : Int)) (h : mem b x = false) : offB b y = true := by unfold offB; rw [← e, h]; rfl
theorem resG_pair {n : Nat} {b row : List Int} (h : IsBlock n row) : ∀ {j : Nat}, j ≤ row.length → (resG b row j).Pairwise (· < ·)
  | 0, _ => List.Pairwise.nil
  | j + 1, hj => by
    have ih := resG_pair (b := b) h (j := j) (by omega)
    cases e : mem b (ix row j)
    · rw [resG_out e]
      refine pair_snoc ih fun y hy => ?_
      obtain ⟨i, hi, q1, q2⟩ := resG_mem.1 hy
      have h1 := inc_lt h.inc hi (show j < row.length by omega)
      have h2 := h.rng i (by omega)
      obtain ⟨u, hu⟩ := Int.eq_ofNat_of_zero_le h2.1
      have := cntL_lt (p := offB b) (b := (ix row j).toNat) (off_of hu q1) (by omega)
      rw [q2, hu, Int.toNat_natCast]
      omega
    · rw [resG_in e]; exact ih
theorem resG_pick {n : Nat} {b row : List Int} (h : IsBlock n row) : resG b row row.length = pickL (resB (leftOf n b) row) (leftOf n b).length := by
  refine rise_pick (resG_pair h (Nat.le_refl _)) (fun x hx => ?_) (fun j hj => ?_)
  · obtain ⟨i, hi, q1, q2⟩ := resG_mem.1 hx
    have h2 := h.rng i hi
    obtain ⟨u, hu⟩ := Int.eq_ofNat_of_zero_le h2.1
    have := cntL_lt (p := offB b) (b := n) (off_of hu q1) (by omega)
    have hL : (leftOf n b).length = cntL (offB b) n := rfl
    rw [q2, hu, hL]
    exact ⟨by omega, by rw [Int.toNat_natCast]; omega⟩
  · obtain ⟨y, hy, hp, hc⟩ := pick_at (p := offB b) (n := n) hj
    have hix : ix (leftOf n b) j = (y : Int) := by rw [← hc]; exact pick_ix hp hy
    have hpm : mem b (y : Int) = false := by unfold offB at hp; simpa using hp
    unfold resB
    rw [hix, mem_iff, resG_mem]
    constructor
    · intro hm
      obtain ⟨i, hi, e⟩ := ix_of_mem hm
      exact ⟨i, hi, by rw [e]; exact hpm, by rw [e, Int.toNat_natCast, hc]⟩
    · rintro ⟨i, hi, q1, q2⟩
      have h2 := h.rng i hi
      obtain ⟨u, hu⟩ := Int.eq_ofNat_of_zero_le h2.1
      have hpu := off_of hu q1
      rw [hu, Int.toNat_natCast] at q2
      have q3 : cntL (offB b) u = cntL (offB b) y := by omega
      have : u = y := by
        rcases Nat.lt_trichotomy u y with h | h | h
        · have := cntL_lt hpu h; omega
        · exact h
        · have := cntL_lt hp h; omega
      rw [← this, ← hu]; exact ix_mem hi
theorem res_law {n q : Nat} {xss : List (List Int)} (h : IsDes n xss) : filtTo (notK q) (fun i => resG (rx xss q) (rx xss i) (rx xss i).length) xss.length = resL n q xss :=
  filtTo_congr (fun _ _ => rfl) fun i hi _ => resG_pick (h.all i hi)
end Go.Proofs.Ytkmcmahpfhlkhaa
