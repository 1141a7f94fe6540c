/-
  Keys that are structs of a number and a set: what they read as; the map of what cannot be cut. No condition.
-/
import Derived.DeepKeys4
import Derived.Maps.Keyed
import Derived.Maps.Own
import Derived.Maps.OwnSet
import Derived.Test.YtkmcmahpfhlkhaaParOfLaw
namespace Go.Proofs.Ytkmcmahpfhlkhaa
open Go.RowKit Go.Maps

theorem key_cut : Keyed Try.prog 54 := Keyed.of_law (deep_law_laid (m := 4) (by kernel_rfl) (by decide) (of_decide_eq_true (by kernel_rfl)) (by kernel_rfl) (by kernel_rfl))
theorem types_posC : ∃ m, Try.prog.types.size = m + 1 := Nat.exists_eq_succ_of_ne_zero (Nat.ne_of_gt (of_decide_eq_true (show decide (0 < Try.prog.types.size) = true by kernel_rfl)))
theorem keyOf_cut {a b : Int} (wa : (Lit.int .i64 a).wf = true) (wb : (Lit.int .u64 b).wf = true) :
    keyOf Try.prog 54 (.agg #[.int .i64 a, .int .u64 b]) = some (.string (keyBytes [.int .i64 a, .int .u64 b])) := by
  have hkt : Try.prog.keyType 54 = true := by kernel_rfl
  have hc : Try.prog.cellsOf 54 = 2 := by kernel_rfl
  have hi : Try.prog.cellsOf 3 = 1 := by kernel_rfl
  have hs : Try.prog.cellsOf 52 = 1 := by kernel_rfl
  obtain ⟨m, hm⟩ := types_posC
  unfold keyOf
  simp only [Try.underlying54]
  rw [if_pos (by simp [hkt, Value.formed, Try.underlying54, hc]), hm]
  unfold Program.keyLits
  simp only [Try.underlying54, Value.cells]
  rw [if_pos ⟨by rw [hc]; rfl, by kernel_rfl⟩]
  simp [Program.keyLits, Try.underlying3, Try.underlying52, hi, hs, wa, wb]
/-- The map of a block holds these places and sets as keys. -/
def MemoIs (w : World) (b : Nat) (acc : List (Nat × Nat)) : Prop :=
  ∃ (n : Nat) (D : DataW Unit), n ≤ acc.length ∧ w.ownsMap Try.prog 54 (plainElem Try.prog 3) b n D ∧ IsMap D ∧
    ∀ i S : Nat, i ≤ 1000 → S < 1152921504606846976 → Maps.has D (.string (keyBytes [.int .i64 (i : Int), .int .u64 (S : Int)])) = decide ((i, S) ∈ acc)
theorem MemoIs.made (w : World) : MemoIs (w.alloc (.map #[] 0)) w.heap.size [] :=
  ⟨0, .map [], Nat.le_refl _, World.ownsMap_made _ _ _ _, ⟨[], rfl⟩, fun i S _ _ => by simp [Maps.has]⟩
theorem cut_wf {i S : Nat} (hi : i ≤ 1000) (hS : S < 1152921504606846976) : (Lit.int .i64 (i : Int)).wf = true ∧ (Lit.int .u64 (S : Int)).wf = true :=
  ⟨WalkArith.wf_i64 (by omega), WalkArith.wf_u64 (by omega)⟩
theorem has_put_cut {D : DataW Unit} (h : IsMap D) {i S j T : Nat} (hi : i ≤ 1000) (hS : S < 1152921504606846976) (hj : j ≤ 1000) (hT : T < 1152921504606846976) (d : DataW Unit) :
    Maps.has (D.put (.string (keyBytes [.int .i64 (i : Int), .int .u64 (S : Int)])) d) (.string (keyBytes [.int .i64 (j : Int), .int .u64 (T : Int)])) = (Maps.has D (.string (keyBytes [.int .i64 (j : Int), .int .u64 (T : Int)])) || decide ((j, T) = (i, S))) := by
  by_cases e : (j, T) = (i, S)
  · injection e with e1 e2
    subst e1; subst e2
    rw [has_put_same h (show WideAt.IsKeyLit (.string _) from trivial)]; simp
  · rw [has_put_other]
    · simp [e]
    · intro e2
      obtain ⟨wi, wS⟩ := cut_wf hi hS
      obtain ⟨wj, wT⟩ := cut_wf hj hT
      have h1 := keyOf_cut wi wS
      have h2 := keyOf_cut wj wT
      rw [← e2] at h1
      have h3 := key_cut.inj h1 h2
      injection h3 with h3
      injection h3 with h3
      injection h3 with h3 h4
      injection h3 with _ h3
      injection h4 with h4 _
      injection h4 with _ h4
      exact e (by rw [Prod.mk.injEq]; omega)
theorem len_of_subC {α : Type} [DecidableEq α] : ∀ {l1 l2 : List α}, l1.Nodup → (∀ x ∈ l1, x ∈ l2) → l1.length ≤ l2.length
  | [], _, _, _ => by simp
  | x :: l1, l2, hn, hs => by
    have hx := hs x (by simp)
    have h2 : ∀ y ∈ l1, y ∈ l2.erase x := fun y hy => by
      have hne : y ≠ x := fun e => by subst e; exact (List.nodup_cons.1 hn).1 hy
      exact (List.mem_erase_of_ne hne).2 (hs y (List.mem_cons_of_mem _ hy))
    have := len_of_subC (List.nodup_cons.1 hn).2 h2
    rw [List.length_erase_of_mem hx] at this
    have hp : 0 < l2.length := List.length_pos_of_mem hx
    simp
    omega
/-- What cannot be cut, each once. -/
structure GoodAcc (B : Nat → Nat) (n N : Nat) (acc : List (Nat × Nat)) : Prop where
  once : acc.Nodup
  none : ∀ i S, (i, S) ∈ acc → i ≤ N ∧ S < 2 ^ n ∧ par B N (N - i) S = none
theorem GoodAcc.nil (B : Nat → Nat) (n N : Nat) : GoodAcc B n N [] := ⟨List.nodup_nil, fun i S h => by simp at h⟩
theorem GoodAcc.len {B : Nat → Nat} {n N : Nat} {acc : List (Nat × Nat)} (h : GoodAcc B n N acc) (hn : n ≤ 40) (hN : N ≤ 200) : acc.length ≤ 221001837314176 := by
  have hp : 2 ^ n ≤ 1099511627776 := Nat.pow_le_pow_right (n := 2) (by omega) hn
  have hnd : (acc.map fun p => p.1 * 1099511627776 + p.2).Nodup := by
    rw [List.Nodup, List.pairwise_map]
    refine List.Pairwise.imp_of_mem ?_ h.once
    intro p q hp' hq' hne e
    have a := h.none p.1 p.2 hp'
    have b := h.none q.1 q.2 hq'
    exact hne (Prod.ext (by omega) (by omega))
  have := len_of_subC hnd (l2 := List.range 221001837314176) (fun x hx => by
    obtain ⟨p, hp', rfl⟩ := List.mem_map.1 hx
    have a := h.none p.1 p.2 hp'
    rw [List.mem_range]; omega)
  rw [List.length_map, List.length_range] at this
  exact this
theorem GoodAcc.add {B : Nat → Nat} {n N : Nat} {acc : List (Nat × Nat)} (h : GoodAcc B n N acc) {i S : Nat} (hi : i ≤ N) (hS : S < 2 ^ n) (hp : par B N (N - i) S = Option.none) (hnew : (i, S) ∉ acc) : GoodAcc B n N (acc ++ [(i, S)]) := by
  refine ⟨List.nodup_append.2 ⟨h.once, by simp, fun p hp q hq e => ?_⟩, fun j T hm => ?_⟩
  · rw [List.mem_singleton] at hq
    subst hq; subst e
    exact hnew hp
  · rw [List.mem_append, List.mem_singleton] at hm
    rcases hm with hm | hm
    · exact h.none j T hm
    · injection hm with e1 e2
      subst e1; subst e2
      exact ⟨hi, hS, hp⟩
theorem MemoIs.put {w' : World} {b : Nat} {acc : List (Nat × Nat)} {n : Nat} {D : DataW Unit} (hn : n ≤ acc.length) (hD : IsMap D) {i S : Nat} (hi : i ≤ 1000) (hS : S < 1152921504606846976)
    (hh : ∀ i S : Nat, i ≤ 1000 → S < 1152921504606846976 → Maps.has D (.string (keyBytes [.int .i64 (i : Int), .int .u64 (S : Int)])) = decide ((i, S) ∈ acc)) (d : DataW Unit)
    (ho : w'.ownsMap Try.prog 54 (plainElem Try.prog 3) b (n + 1) (D.put (.string (keyBytes [.int .i64 (i : Int), .int .u64 (S : Int)])) d)) : MemoIs w' b (acc ++ [(i, S)]) := by
  refine ⟨n + 1, _, by rw [List.length_append]; simp; exact hn, ho, hD.put _ _, fun j T hj hT => ?_⟩
  rw [has_put_cut hD hi hS hj hT, hh j T hj hT, ← Bool.decide_or]
  simp
end Go.Proofs.Ytkmcmahpfhlkhaa
