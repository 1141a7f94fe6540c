/-
  Plain laws: the next set of as many points, in order. No program in sight. No condition.
-/
import Derived.Test.YtkmcmahpfhlkhaaLevLaw
namespace Go.Proofs.Ytkmcmahpfhlkhaa
open Go.RowKit

/-- The next set in order. -/
def nextL (n : Nat) : List Nat → Option (List Nat)
  | [] => none
  | x :: P => match nextL n P with
    | some Q => some (x :: Q)
    | none => if x + (P.length + 1) < n then some (List.range' (x + 1) (P.length + 1)) else none
/-- Each is followed by its next; the last by e. -/
def ChainN {α : Type} (f : α → Option α) (e : Option α) : List α → Prop
  | [] => True
  | [x] => f x = e
  | x :: y :: L => f x = some y ∧ ChainN f e (y :: L)
theorem chain_append {α : Type} {f : α → Option α} {e : Option α} {y : α} {M : List α} : ∀ {L : List α}, ChainN f (some y) L → ChainN f e (y :: M) → ChainN f e (L ++ y :: M)
  | [], _, h => h
  | [_], h, g => ⟨h, g⟩
  | _ :: z :: L, ⟨h1, h2⟩, g => ⟨h1, chain_append (L := z :: L) h2 g⟩
theorem chain_at {α : Type} {f : α → Option α} {x : α} {M : List α} : ∀ {L : List α}, ChainN f none (L ++ x :: M) → f x = M.head?
  | [], h => by
    match M, h with
    | [], h => exact h
    | y :: M, h => exact h.1
  | [z], h => chain_at (L := []) h.2
  | z :: u :: L, h => chain_at (L := u :: L) h.2
theorem chain_cons {n x : Nat} {e : Option (List Nat)} : ∀ {L : List (List Nat)}, ChainN (nextL n) none L → (∀ P ∈ L, (nextL n P = none → (if x + (P.length + 1) < n then some (List.range' (x + 1) (P.length + 1)) else none) = e)) → ChainN (nextL n) e (L.map (x :: ·))
  | [], _, _ => trivial
  | [P], h, g => by
    show nextL n (x :: P) = e
    have h' : nextL n P = none := h
    rw [nextL, h']
    exact g P (by simp) h'
  | P :: Q :: L, ⟨h1, h2⟩, g => by
    refine ⟨?_, chain_cons (L := Q :: L) h2 fun R hR => g R (by simp [hR])⟩
    show nextL n (x :: P) = some (x :: Q)
    rw [nextL, h1]
theorem subsL_head {n : Nat} : ∀ {l a : Nat}, a + l ≤ n → ∃ M, subsL n l a = List.range' a l :: M
  | 0, a, _ => ⟨[], rfl⟩
  | l + 1, a, h => by
    obtain ⟨M, hM⟩ := subsL_head (n := n) (l := l) (a := a + 1) (by omega)
    rw [subsL]
    obtain ⟨m, hm⟩ : ∃ m, n - l - a = m + 1 := ⟨n - l - a - 1, by omega⟩
    rw [hm, List.range_succ_eq_map, List.flatMap_cons]
    simp only [Nat.add_zero]
    rw [hM, List.range'_succ]
    exact ⟨_, rfl⟩
theorem subsL_chain (n : Nat) : ∀ (l a : Nat), ChainN (nextL n) none (subsL n l a)
  | 0, a => rfl
  | l + 1, a => by
    have hlen : ∀ b, ∀ P ∈ subsL n l b, P.length = l := fun b P hP => (mem_subsL.1 hP).1
    -- the last parts
    have key : ∀ m, m ≤ n - l - a → ChainN (nextL n) none ((List.range' (n - l - a - m) m).flatMap fun i => (subsL n l (a + i + 1)).map ((a + i) :: ·)) := by
      intro m
      induction m with
      | zero => intro _; trivial
      | succ m ih =>
        intro hm
        rw [List.range'_succ, List.flatMap_cons]
        have e : n - l - a - (m + 1) + 1 = n - l - a - m := by omega
        rw [e]
        by_cases hm0 : m = 0
        · subst hm0
          rw [show List.range' (n - l - a - 0) 0 = [] from rfl, List.flatMap_nil, List.append_nil]
          refine chain_cons (subsL_chain n l _) fun P hP _ => ?_
          rw [hlen _ P hP, if_neg (by omega)]
        · have ih' := ih (by omega)
          obtain ⟨q, rfl⟩ : ∃ q, m = q + 1 := ⟨m - 1, by omega⟩
          rw [List.range'_succ, List.flatMap_cons] at ih' ⊢
          obtain ⟨M, hM⟩ := subsL_head (n := n) (l := l) (a := a + (n - l - a - (q + 1)) + 1) (by omega)
          rw [hM] at ih' ⊢
          refine chain_append (chain_cons (subsL_chain n l _) fun P hP _ => ?_) ih'
          rw [hlen _ P hP, if_pos (by omega)]
          congr 1
          rw [List.range'_succ, show a + (n - l - a - (q + 1 + 1)) + 1 = a + (n - l - a - (q + 1)) by omega]
    have := key (n - l - a) (Nat.le_refl _)
    rw [Nat.sub_self, ← List.range_eq_range'] at this
    exact this
end Go.Proofs.Ytkmcmahpfhlkhaa
