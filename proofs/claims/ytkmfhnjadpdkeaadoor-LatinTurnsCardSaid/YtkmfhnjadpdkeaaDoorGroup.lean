/-
  Plain law: what associates has a unit; a closed part holds it, and its size divides the whole's. No program in sight. No condition.
-/
import Derived.Test.YtkmfhnjadpdkeaaDoorTransLaw
import Derived.Test.YtkmfhnjadpdkeaaDoorAll3
namespace Go.Proofs.YtkmfhnjadpdkeaaDoor
open Go.RowKit

structure Grp (n : Nat) (op : Nat → Nat → Nat) : Prop where
  lt : ∀ {i j}, i < n → j < n → op i j < n
  rinj : ∀ {i j k}, i < n → j < n → k < n → op i j = op i k → j = k
  cinj : ∀ {i j k}, i < n → j < n → k < n → op j i = op k i → j = k
  rhas : ∀ {i b}, i < n → b < n → ∃ j, j < n ∧ op i j = b
  chas : ∀ {i b}, i < n → b < n → ∃ j, j < n ∧ op j i = b
  asc : ∀ {x y z}, x < n → y < n → z < n → op (op x y) z = op x (op y z)
def IsUnit (n : Nat) (op : Nat → Nat → Nat) (u : Nat) : Prop := u < n ∧ ∀ y, y < n → op u y = y ∧ op y u = y
def szB (n : Nat) (S : Nat → Bool) : Nat := sumTo (fun j => if S j then 1 else 0) n

theorem sumTo_swap (f : Nat → Nat → Nat) (m : Nat) : ∀ n, sumTo (fun j => sumTo (fun s => f j s) m) n = sumTo (fun s => sumTo (fun j => f j s) n) m
  | 0 => by rw [sumTo]; exact (sumTo_zero (f := fun _ => 0) m (fun _ _ => rfl)).symm
  | n + 1 => by rw [sumTo, sumTo_swap f m n, ← sumTo_add]; rfl
theorem sumTo_delta (a c : Nat) : ∀ n, sumTo (fun j => if a = j then c else 0) n = if a < n then c else 0
  | 0 => by simp [sumTo]
  | n + 1 => by
    rw [sumTo, sumTo_delta a c n]
    by_cases h1 : a < n
    · rw [if_pos h1, if_neg (by omega), if_pos (by omega)]; rfl
    · by_cases h2 : a = n
      · rw [if_neg h1, if_pos h2, if_pos (by omega)]; omega
      · rw [if_neg h1, if_neg h2, if_neg (by omega)]
theorem sumTo_mem (f : Nat → Nat) {i : Nat} : ∀ n, i < n → f i ≤ sumTo f n
  | 0, h => by omega
  | n + 1, h => by
    rw [sumTo]
    by_cases e : i = n
    · subst e; omega
    · have := sumTo_mem f n (i := i) (by omega); omega

section
variable {n : Nat} {op : Nat → Nat → Nat}
theorem Grp.unit (h : Grp n op) (hn : 0 < n) : ∃ u, IsUnit n op u := by
  obtain ⟨e, he, h0⟩ := h.rhas (i := 0) (b := 0) hn hn
  have hr : ∀ y, y < n → op y e = y := by
    intro y hy
    obtain ⟨z, hz, hzy⟩ := h.chas (i := 0) (b := y) hn hy
    have := h.asc hz hn he
    rw [hzy, h0] at this
    rw [this, hzy]
  refine ⟨e, he, fun y hy => ⟨?_, hr y hy⟩⟩
  have h1 := h.asc hy he hy
  rw [hr y hy] at h1
  exact (h.rinj hy hy (h.lt he hy) h1).symm
theorem Grp.inv (h : Grp n op) {u x y z : Nat} (hu : IsUnit n op u) (hx : x < n) (hy : y < n) (hz : z < n) (h1 : op x y = u) (h2 : op z x = u) : y = z := by
  have := h.asc hz hx hy
  rw [h1, h2, (hu.2 y hy).1, (hu.2 z hz).2] at this
  exact this

variable {S : Nat → Bool}
theorem Grp.onto (h : Grp n op) (hS : ∀ x y, x < n → y < n → S x = true → S y = true → S (op x y) = true) {x b : Nat} (hx : x < n) (hb : b < n) (hSx : S x = true) (hSb : S b = true) : ∃ y, y < n ∧ S y = true ∧ op x y = b := by
  obtain ⟨i, hi, he⟩ := pigeon n (fun y => if S y then op x y else y)
    (fun i hi => by show (if S i then op x i else i) < n; split; exact h.lt hx hi; exact hi)
    (fun i j hi hj he => by
      replace he : (if S i then op x i else i) = (if S j then op x j else j) := he
      cases e1 : S i <;> cases e2 : S j
      · simpa [e1, e2] using he
      · rw [e1, e2] at he
        have h3 := hS x j hx hj hSx e2
        replace he : i = op x j := he
        rw [← he, e1] at h3; cases h3
      · rw [e1, e2] at he
        have h3 := hS x i hx hi hSx e1
        replace he : op x i = j := he
        rw [he, e2] at h3; cases h3
      · rw [e1, e2] at he
        exact h.rinj hx hi hj he) b hb
  replace he : (if S i then op x i else i) = b := he
  cases e : S i
  · rw [e] at he
    replace he : i = b := he
    rw [he, hSb] at e; cases e
  · rw [e] at he
    exact ⟨i, hi, e, he⟩
theorem Grp.holds (h : Grp n op) (hS : ∀ x y, x < n → y < n → S x = true → S y = true → S (op x y) = true) {u x : Nat} (hu : IsUnit n op u) (hx : x < n) (hSx : S x = true) : S u = true := by
  obtain ⟨y, hy, hSy, he⟩ := h.onto hS hx hx hSx hSx
  have := h.rinj hx hy hu.1 (he.trans (hu.2 x hx).2.symm)
  rw [← this]; exact hSy

theorem Grp.lagrange (h : Grp n op) (hS : ∀ x y, x < n → y < n → S x = true → S y = true → S (op x y) = true) {u : Nat} (hu : IsUnit n op u) (hSu : S u = true) :
    ∀ m (T : Nat → Bool), szB n T ≤ m → (∀ t s, t < n → s < n → T t = true → S s = true → T (op t s) = true) → ∃ k, szB n T = szB n S * k := by
  have hpos : 1 ≤ szB n S := by
    have := sumTo_mem (fun j => if S j then 1 else 0) n hu.1
    simp only [hSu, if_true] at this
    exact this
  intro m
  induction m with
  | zero => intro T h0 _; exact ⟨0, by omega⟩
  | succ m ih =>
    intro T hm hT
    by_cases hex : ∃ g, g < n ∧ T g = true
    · obtain ⟨g, hg, hTg⟩ := hex
      let cG : Nat → Nat := fun j => sumTo (fun s => if op g s = j then (if S s then 1 else 0) else 0) n
      have hcG : ∀ s, s < n → cG (op g s) = if S s then 1 else 0 := by
        intro s hs
        show sumTo _ n = _
        rw [sumTo_congr (g := fun i => if s = i then (if S s then 1 else 0) else 0) n (fun i hi => ?_), sumTo_delta, if_pos hs]
        by_cases e : s = i
        · subst e; rw [if_pos rfl, if_pos rfl]
        · rw [if_neg e, if_neg (fun e2 => e (h.rinj hg hi hs e2).symm)]
      have hsum : sumTo cG n = szB n S := by
        show sumTo (fun j => sumTo (fun s => if op g s = j then (if S s then 1 else 0) else 0) n) n = _
        rw [sumTo_swap]
        refine sumTo_congr n fun s hs => ?_
        rw [sumTo_delta, if_pos (h.lt hg hs)]
      let T' : Nat → Bool := fun j => T j && cG j == 0
      have hsplit : szB n T = szB n T' + szB n S := by
        rw [← hsum]
        show sumTo _ n = sumTo _ n + sumTo cG n
        rw [← sumTo_add]
        refine sumTo_congr n fun j hj => ?_
        obtain ⟨s, hs, hsj⟩ := h.rhas hg hj
        have hc := hcG s hs
        rw [hsj] at hc
        show (if T j then 1 else 0) = (if (T j && cG j == 0) then 1 else 0) + cG j
        rw [hc]
        cases e : S s
        · cases T j <;> rfl
        · have := hT g s hg hs hTg e
          rw [hsj] at this
          rw [this]; rfl
      obtain ⟨k, hk⟩ := ih T' (by omega) (fun t s ht hs h1 h2 => by
        have h1' : (T t && cG t == 0) = true := h1
        rw [Bool.and_eq_true, beq_iff_eq] at h1'
        show (T (op t s) && cG (op t s) == 0) = true
        rw [Bool.and_eq_true, beq_iff_eq]
        refine ⟨hT t s ht hs h1'.1 h2, ?_⟩
        obtain ⟨s0, hs0, he0⟩ := h.rhas hg (h.lt ht hs)
        have hc := hcG s0 hs0
        rw [he0] at hc
        rw [hc]
        cases e : S s0
        · rfl
        · exfalso
          obtain ⟨s', hs', hSs', hi⟩ := h.onto hS hs hu.1 h2 hSu
          have a1 := h.asc ht hs hs'
          rw [hi, (hu.2 t ht).2, ← he0, h.asc hg hs0 hs'] at a1
          have a2 := hcG (op s0 s') (h.lt hs0 hs')
          rw [a1, hS s0 s' hs0 hs' e hSs', h1'.2] at a2
          cases a2)
      exact ⟨k + 1, by rw [hsplit, hk, Nat.mul_succ]⟩
    · refine ⟨0, ?_⟩
      rw [Nat.mul_zero]
      refine sumTo_zero n fun i hi => ?_
      cases e : T i
      · rfl
      · exact absurd ⟨i, hi, e⟩ hex
end
end Go.Proofs.YtkmfhnjadpdkeaaDoor
