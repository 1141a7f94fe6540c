/-
  Plain law: the orders by rank are all orders, each once; what is counted over them goes by injections. No program in sight. No condition.
-/
import Derived.Test.YtkmfhnjadpdkeaaDoorRenLaw
import Derived.Test.YtkmfhnjadpdkeaaDoorTransLaw
import Derived.Test.YtkmfhnjadpdkeaaDoorGroup
namespace Go.Proofs.YtkmfhnjadpdkeaaDoor
open Go.RowKit

theorem cntU_step {n l x : Nat} {out : List Int} (h : cntU out n = l + 1) (hx : x < n) (hm : mem out (x : Int) = false) : cntU (out ++ [(x : Int)]) n = l := by
  have := cntU_snoc out x hm n
  rw [if_pos hx] at this; omega
theorem snoc_cancel {out t s : List Int} {x y : Int} (h : (out ++ [x]) ++ t = (out ++ [y]) ++ s) : x = y := by
  rw [List.append_assoc, List.append_assoc] at h
  have := List.append_cancel_left h
  simp at this
  exact this.1
theorem unrank_inj (n : Nat) : ∀ l out k k', cntU out n = l → k < fct l → k' < fct l → unrank n l out k = unrank n l out k' → k = k'
  | 0, _, k, k', _, h1, h2, _ => by
    have : fct 0 = 1 := rfl
    omega
  | l + 1, out, k, k', hc, h1, h2, he => by
    have hp := fct_pos l
    have q1 : k / fct l < l + 1 := (Nat.div_lt_iff_lt_mul hp).2 h1
    have q2 : k' / fct l < l + 1 := (Nat.div_lt_iff_lt_mul hp).2 h2
    obtain ⟨a1, a2, a3⟩ := pickU_spec out (k / fct l) n (by omega)
    obtain ⟨b1, b2, b3⟩ := pickU_spec out (k' / fct l) n (by omega)
    rw [unrank, unrank] at he
    obtain ⟨t, ht⟩ := unrank_pre n l (out ++ [((pickU out (k / fct l) n : Nat) : Int)]) (k % fct l)
    obtain ⟨s, hs⟩ := unrank_pre n l (out ++ [((pickU out (k' / fct l) n : Nat) : Int)]) (k' % fct l)
    have hxy := snoc_cancel (ht.symm.trans (he.trans hs))
    have hpk : pickU out (k / fct l) n = pickU out (k' / fct l) n := by omega
    have hq : k / fct l = k' / fct l := a3.symm.trans ((congrArg (cntU out) hpk).trans b3)
    rw [hq] at he
    rw [hq] at a1 a2
    have hm := unrank_inj n l _ _ _ (cntU_step hc a1 a2) (Nat.mod_lt _ hp) (Nat.mod_lt _ hp) he
    rw [← Nat.div_add_mod k (fct l), ← Nat.div_add_mod k' (fct l), hq, hm]
theorem unrank_onto (n : Nat) : ∀ l out t, cntU out n = l → t.length = l → (∀ y ∈ t, 0 ≤ y ∧ y < (n : Int)) → (out ++ t).Nodup → ∃ k, k < fct l ∧ unrank n l out k = out ++ t
  | 0, out, t, _, ht, _, _ => by
    obtain rfl : t = [] := List.eq_nil_of_length_eq_zero ht
    exact ⟨0, by show 0 < 1; omega, by rw [unrank, List.append_nil]⟩
  | l + 1, out, [], _, ht, _, _ => by cases ht
  | l + 1, out, x :: t, hc, ht, hm, hn => by
    obtain ⟨h0, h1⟩ := hm x (by simp)
    obtain ⟨X, rfl⟩ := Int.eq_ofNat_of_zero_le h0
    have hX : X < n := by omega
    have hnm : mem out (X : Int) = false := by
      cases e : mem out (X : Int)
      · rfl
      · exact absurd rfl ((List.nodup_append.1 hn).2.2 (X : Int) ((mem_iff _ _).1 e) (X : Int) (by simp))
    obtain ⟨k, hk, he⟩ := unrank_onto n l (out ++ [(X : Int)]) t (cntU_step hc hX hnm) (by simpa using ht) (fun y hy => hm y (List.mem_cons_of_mem _ hy)) (by rw [List.append_assoc]; exact hn)
    have hq := cntU_lt out hX hnm
    refine ⟨cntU out X * fct l + k, ?_, ?_⟩
    · have : (cntU out X + 1) * fct l ≤ (l + 1) * fct l := Nat.mul_le_mul (by omega) (Nat.le_refl _)
      rw [Nat.add_mul, Nat.one_mul] at this
      show _ < (l + 1) * fct l
      omega
    · rw [unrank_at hk, pickU_here hnm hX, he, List.append_assoc]; rfl
theorem unrank_nodup (n : Nat) : ∀ l out k, cntU out n = l → k < fct l → out.Nodup → (unrank n l out k).Nodup
  | 0, _, _, _, _, h => h
  | l + 1, out, k, hc, hk, h => by
    have hp := fct_pos l
    obtain ⟨a1, a2, a3⟩ := pickU_spec out (k / fct l) n (by have := (Nat.div_lt_iff_lt_mul (y := l + 1) hp).2 hk; omega)
    rw [unrank]
    refine unrank_nodup n l _ _ (cntU_step hc a1 a2) (Nat.mod_lt _ hp) (List.nodup_append.2 ⟨h, by simp, fun y hy z hz e => ?_⟩)
    rw [List.mem_singleton] at hz
    subst hz; subst e
    rw [(mem_iff _ _).2 hy] at a2; cases a2
theorem inj_of_nodup {qs : List Int} (h : qs.Nodup) : ∀ i j, i < qs.length → j < qs.length → ix qs i = ix qs j → i = j := by
  rw [List.Nodup, List.pairwise_iff_getElem] at h
  intro i j hi hj e
  rw [ix_lt hi, ix_lt hj] at e
  rcases Nat.lt_trichotomy i j with h1 | h1 | h1
  · exact absurd e (h i j hi hj h1)
  · exact h1
  · exact absurd e.symm (h j i hj hi h1)
/-- The orders of n numbers. -/
def Ord (n : Nat) (p : List Int) : Prop := p.length = n ∧ PermQ p
theorem ord_perm {n k : Nat} (hn : n ≤ 12) (hk : k < fct n) : Ord n (permOf n k) := by
  have hl := permOf_len n k
  refine ⟨hl, by omega, fun i hi => ?_, inj_of_nodup (unrank_nodup n n [] k (cntU_nil n) hk List.nodup_nil)⟩
  have := permOf_mem hk _ (ix_mem hi)
  omega
theorem ord_rank {n : Nat} {p : List Int} (h : Ord n p) : ∃ k, k < fct n ∧ permOf n k = p := by
  obtain ⟨k, h1, h2⟩ := unrank_onto n n [] p (cntU_nil n) h.1 (fun y hy => by
    obtain ⟨i, hi, rfl⟩ := List.mem_iff_getElem.1 hy
    have := h.2.rng i hi
    rw [ix_lt hi, h.1] at this
    omega) (nodup_of_inj h.2.inj)
  exact ⟨k, h1, h2⟩
/-- How many below m pass. -/
def cntB (b : Nat → Bool) (m : Nat) : Nat := sumTo (fun k => if b k then 1 else 0) m
theorem cntB_len (b : Nat → Bool) (m : Nat) : cntB b m = ((List.range m).filter b).length := by
  unfold cntB
  induction m with
  | zero => rfl
  | succ m ih =>
    rw [sumTo, ih, List.range_succ, List.filter_append, List.length_append]
    cases e : b m
    · rw [List.filter_cons_of_neg (by rw [e]; exact Bool.false_ne_true)]; rfl
    · rw [List.filter_cons_of_pos e]; rfl
theorem len_of_sub {α : Type} [DecidableEq α] : ∀ {l1 l2 : List α}, l1.Nodup → (∀ x ∈ l1, x ∈ l2) → l1.length ≤ l2.length
  | [], _, _, _ => by simp
  | x :: l1, l2, hn, hs => by
    have hx := hs x (by simp)
    have h2 : ∀ y ∈ l1, y ∈ l2.erase x := fun y hy => by
      have hne : y ≠ x := fun e => by subst e; exact (List.nodup_cons.1 hn).1 hy
      exact (List.mem_erase_of_ne hne).2 (hs y (List.mem_cons_of_mem _ hy))
    have := len_of_sub (List.nodup_cons.1 hn).2 h2
    rw [List.length_erase_of_mem hx] at this
    have hp : 0 < l2.length := List.length_pos_of_mem hx
    simp
    omega
/-- An injection of what passes into what passes. -/
theorem cntB_le {b c : Nat → Bool} {m : Nat} (f : Nat → Nat) (hf : ∀ k, k < m → b k = true → f k < m ∧ c (f k) = true) (hi : ∀ k k', k < m → k' < m → b k = true → b k' = true → f k = f k' → k = k') : cntB b m ≤ cntB c m := by
  rw [cntB_len, cntB_len]
  have hn : (((List.range m).filter b).map f).Nodup := by
    rw [List.Nodup, List.pairwise_map]
    refine List.Pairwise.imp_of_mem ?_ (List.nodup_range.filter b)
    intro x y hx hy hne e
    rw [List.mem_filter, List.mem_range] at hx hy
    exact hne (hi x y hx.1 hy.1 hx.2 hy.2 e)
  have := len_of_sub hn (l2 := (List.range m).filter c) (fun x hx => by
    obtain ⟨k, hk, rfl⟩ := List.mem_map.1 hx
    rw [List.mem_filter, List.mem_range] at hk ⊢
    exact hf k hk.1 hk.2)
  rw [List.length_map] at this
  exact this
/-- The same over orders. -/
theorem cntP_le {n : Nat} (hn : n ≤ 12) {b c : List Int → Bool} (f : List Int → List Int) (hf : ∀ p, Ord n p → b p = true → Ord n (f p) ∧ c (f p) = true) (hi : ∀ p p', Ord n p → Ord n p' → b p = true → b p' = true → f p = f p' → p = p') :
    cntB (fun k => b (permOf n k)) (fct n) ≤ cntB (fun k => c (permOf n k)) (fct n) := by
  have hex : ∀ k, ∃ r, k < fct n → b (permOf n k) = true → r < fct n ∧ permOf n r = f (permOf n k) := fun k => by
    by_cases h1 : k < fct n
    · cases h2 : b (permOf n k)
      · exact ⟨0, fun _ h => by cases h⟩
      · obtain ⟨r, h3, h4⟩ := ord_rank (hf _ (ord_perm hn h1) h2).1
        exact ⟨r, fun _ _ => ⟨h3, h4⟩⟩
    · exact ⟨0, fun h => absurd h h1⟩
  obtain ⟨g, hg⟩ := Classical.axiomOfChoice hex
  refine cntB_le g (fun k hk hb => ?_) (fun k k' hk hk' hb hb' e => ?_)
  · obtain ⟨h1, h2⟩ := hg k hk hb
    refine ⟨h1, ?_⟩
    rw [h2]
    exact (hf _ (ord_perm hn hk) hb).2
  · obtain ⟨_, h2⟩ := hg k hk hb
    obtain ⟨_, h4⟩ := hg k' hk' hb'
    have := hi _ _ (ord_perm hn hk) (ord_perm hn hk') hb hb' (by rw [← h2, ← h4, e])
    exact unrank_inj n n [] k k' (cntU_nil n) hk hk' this
end Go.Proofs.YtkmfhnjadpdkeaaDoor
