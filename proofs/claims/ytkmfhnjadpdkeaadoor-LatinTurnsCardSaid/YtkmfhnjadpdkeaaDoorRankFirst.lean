/-
  Plain law: the first that passes by rank, or found number by number, is the same. No program in sight. No condition.
-/
import Derived.Test.YtkmfhnjadpdkeaaDoorRankSum
import Derived.Test.YtkmfhnjadpdkeaaDoorFsome
namespace Go.Proofs.YtkmfhnjadpdkeaaDoor
open Go.RowKit

theorem fsome_nil {α : Type} {f : Nat → Option α} : ∀ n, (∀ k, k < n → f k = none) → fsome f n = none
  | 0, _ => rfl
  | n + 1, h => by rw [fsome, fsome_nil n (fun k hk => h k (by omega)), h n (by omega)]
theorem fsome_split {α : Type} (f : Nat → Option α) (m : Nat) : ∀ q, fsome f (q * m) = fsome (fun i => fsome (fun j => f (i * m + j)) m) q
  | 0 => by rw [Nat.zero_mul]; rfl
  | q + 1 => by
    rw [fsome, ← fsome_split f m q, Nat.succ_mul]
    have : ∀ j, fsome f (q * m + j) = match fsome f (q * m) with | some a => some a | none => fsome (fun j => f (q * m + j)) j := by
      intro j
      induction j with
      | zero => rw [Nat.add_zero]; cases fsome f (q * m) <;> rfl
      | succ j ih =>
        rw [← Nat.add_assoc, fsome, ih]
        cases fsome f (q * m) with
        | some a => rfl
        | none => rfl
    exact this m
/-- The numbers that are not taken, one by one or by their count. -/
theorem fsome_pick {α : Type} (out : List Int) (g : Nat → Option α) (n : Nat) : ∀ m, m ≤ n → fsome (fun x => if mem out (x : Int) then none else g x) m = fsome (fun q => g (pickU out q n)) (cntU out m)
  | 0, _ => rfl
  | m + 1, h => by
    rw [fsome, fsome_pick out g n m (by omega), cntU]
    cases hm : mem out (m : Int)
    · show _ = fsome _ (cntU out m + 1)
      rw [fsome, pickU_here hm (by omega)]
      rfl
    · show _ = fsome _ (cntU out m)
      cases fsome (fun q => g (pickU out q n)) (cntU out m) <;> rfl
def oneO (c : List Int → Bool) (p : List Int) : Option (List Int) := if c p then some p else none
/-- The first list that goes on from one by l numbers and passes. -/
def firR (n : Nat) (c : List Int → Bool) : Nat → List Int → Option (List Int)
  | 0, out => oneO c out
  | l + 1, out => if c out then fsome (fun x => if mem out (x : Int) then none else firR n c l (out ++ [(x : Int)])) n else none
theorem firR_law (n : Nat) (c : List Int → Bool) (hc : ∀ a t, c (a ++ t) = true → c a = true) : ∀ l out, cntU out n = l → fsome (fun k => oneO c (unrank n l out k)) (fct l) = firR n c l out
  | 0, out, _ => by
    show fsome _ 1 = _
    rw [fsome, fsome, unrank, firR]
  | l + 1, out, h => by
    rw [firR]
    cases e : c out
    · refine fsome_nil _ fun k _ => ?_
      obtain ⟨t, ht⟩ := unrank_pre n (l + 1) out k
      show oneO c (unrank n (l + 1) out k) = none
      unfold oneO
      cases e2 : c (unrank n (l + 1) out k)
      · rfl
      · rw [ht] at e2
        have := hc _ _ e2
        rw [e] at this; cases this
    · rw [show fct (l + 1) = (l + 1) * fct l from rfl, fsome_split, if_pos rfl,
        fsome_pick out (fun x => firR n c l (out ++ [(x : Int)])) n n (Nat.le_refl _), h]
      refine fsome_congr _ fun i hi => ?_
      obtain ⟨p1, p2, p3⟩ := pickU_spec out i n (by omega)
      rw [← firR_law n c hc l (out ++ [((pickU out i n : Nat) : Int)]) (by have := cntU_snoc out _ p2 n; rw [if_pos p1] at this; omega)]
      exact fsome_congr _ fun j hj => by rw [unrank_at hj]
theorem firR_all (n : Nat) (c : List Int → Bool) (hc : ∀ a t, c (a ++ t) = true → c a = true) : fsome (fun k => oneO c (permOf n k)) (fct n) = firR n c n [] :=
  firR_law n c hc n [] (cntU_nil n)
/-- What is found passes, goes on from the list, and holds numbers below n. -/
theorem firR_some {n : Nat} {c : List Int → Bool} : ∀ {l : Nat} {out r : List Int}, firR n c l out = some r → (∀ y ∈ out, 0 ≤ y ∧ y < (n : Int)) → c r = true ∧ r.length = out.length + l ∧ ∀ y ∈ r, 0 ≤ y ∧ y < (n : Int)
  | 0, out, r, h, hm => by
    rw [firR, oneO] at h
    cases e : c out
    · rw [e] at h; cases h
    · rw [e] at h
      injection h with h
      subst h
      exact ⟨e, rfl, hm⟩
  | l + 1, out, r, h, hm => by
    rw [firR] at h
    cases e : c out
    · rw [e] at h; cases h
    · rw [e, if_pos rfl] at h
      obtain ⟨x, hx, hf⟩ := fsome_some h
      cases em : mem out (x : Int)
      · rw [em] at hf
        obtain ⟨h1, h2, h3⟩ := firR_some (l := l) hf (fun y hy => by
          rcases List.mem_append.1 hy with hy | hy
          · exact hm y hy
          · rw [List.mem_singleton] at hy; subst hy; omega)
        exact ⟨h1, by rw [h2, List.length_append, List.length_singleton]; omega, h3⟩
      · rw [em] at hf; cases hf
/-- Where there is a list that passes, one is found. -/
theorem firR_isSome {n : Nat} {c : List Int → Bool} (hc : ∀ a t, c (a ++ t) = true → c a = true) : ∀ {l : Nat} {out t : List Int}, c (out ++ t) = true → t.length = l → (∀ y ∈ t, 0 ≤ y ∧ y < (n : Int)) → (out ++ t).Nodup → (firR n c l out).isSome = true
  | 0, out, t, h, ht, _, _ => by
    obtain rfl : t = [] := List.eq_nil_of_length_eq_zero ht
    rw [List.append_nil] at h
    rw [firR, oneO, h]; rfl
  | l + 1, out, t, h, ht, hm, hn => by
    rw [firR, hc _ _ h, if_pos rfl]
    cases t with
    | nil => cases ht
    | cons x t =>
      obtain ⟨h0, h1⟩ := hm x (by simp)
      obtain ⟨X, rfl⟩ := Int.eq_ofNat_of_zero_le h0
      have hX : X < n := by omega
      have hnm : mem out (X : Int) = false := by
        cases e : mem out (X : Int)
        · rfl
        · exact absurd rfl ((List.nodup_append.1 hn).2.2 (X : Int) ((mem_iff _ _).1 e) (X : Int) (by simp))
      refine fsome_isSome (k := X) hX ?_
      rw [hnm]
      exact firR_isSome hc (l := l) (out := out ++ [(X : Int)]) (t := t) (by rw [List.append_assoc]; exact h) (by simpa using ht) (fun y hy => hm y (List.mem_cons_of_mem _ hy)) (by rw [List.append_assoc]; exact hn)
end Go.Proofs.YtkmfhnjadpdkeaaDoor
