/-
  Plain laws: the complement of a design of a level is of this level. No program in sight. No condition.
-/
import Derived.Test.YtkmcmahpfhlkhaaLevLaw
import Derived.Test.YtkmcmahpfhlkhaaCompOf
namespace Go.Proofs.Ytkmcmahpfhlkhaa
open Go.RowKit

theorem compL_len (n : Nat) (xss : List (List Int)) : (compL n xss).length = xss.length := rowsTo_len _ _
theorem compL_rx {n : Nat} {xss : List (List Int)} {i : Nat} (hi : i < xss.length) : rx (compL n xss) i = pickL (offB (rx xss i)) n := rowsTo_rx _ hi
theorem compL_in {n : Nat} {xss : List (List Int)} {i x : Nat} (hi : i < xss.length) (hx : x < n) : ptB (compL n xss) i x = !ptB xss i x := by
  unfold ptB
  rw [compL_rx hi, Bool.eq_iff_iff, mem_iff, mem_pickL]
  constructor
  · rintro ⟨j, h1, h2, h3⟩
    obtain rfl : x = j := by omega
    exact h2
  · intro h; exact ⟨x, hx, h, rfl⟩
theorem pickL_block {n : Nat} (p : Nat → Bool) : IsBlock n (pickL p n) := block_pair (pickL_pair p n) fun x hx => by obtain ⟨j, h1, _, h3⟩ := mem_pickL.1 hx; omega
theorem compL_des {n : Nat} {xss : List (List Int)} (h : IsDes n xss) : IsDes n (compL n xss) :=
  ⟨h.lo, h.hi, by rw [compL_len]; exact h.few, fun i hi => by rw [compL_len] at hi; rw [compL_rx hi]; exact pickL_block _⟩
theorem rows_ext {xss yss : List (List Int)} (hl : xss.length = yss.length) (h : ∀ i, i < xss.length → rx xss i = rx yss i) : xss = yss := by
  apply List.ext_getElem hl
  intro i h1 h2
  have := h i h1
  rwa [rx_lt h1, rx_lt h2] at this
/-- Twice, it is the design. -/
theorem compL_twice {n : Nat} {xss : List (List Int)} (h : IsDes n xss) : compL n (compL n xss) = xss := by
  refine rows_ext (by rw [compL_len, compL_len]) fun i hi => ?_
  rw [compL_len, compL_len] at hi
  rw [compL_rx (by rw [compL_len]; exact hi)]
  have hb := h.all i hi
  refine (rise_pick hb.pair (fun x hx => hb.mem_rng hx) fun j hj => ?_).symm
  have : offB (rx (compL n xss) i) j = !ptB (compL n xss) i j := rfl
  rw [this, compL_in hi hj, Bool.not_not]
  exact mem_iff _ _
/-- Has block i none of T? -/
def noneP (xss : List (List Int)) (T : List Nat) (i : Nat) : Bool := T.all fun x => !ptB xss i x
theorem noneP_cons (xss : List (List Int)) (y : Nat) (T : List Nat) (i : Nat) : noneP xss (y :: T) i = (!ptB xss i y && noneP xss T i) := rfl
def bothN (xss : List (List Int)) (S T : List Nat) : Int := sumL (List.range xss.length) (fun i => ind (holdP xss S i) * ind (noneP xss T i))
theorem both_cons (xss : List (List Int)) (S T : List Nat) (y : Nat) : bothN xss S (y :: T) = bothN xss S T - bothN xss (y :: S) T := by
  unfold bothN
  rw [← sumL_sub]
  refine sumL_congr fun i _ => ?_
  rw [noneP_cons, hasP_cons, ind_and, ind_and, ind_not]
  generalize ind (holdP xss S i) = a; generalize ind (noneP xss T i) = b; generalize ind (ptB xss i y) = c
  rw [Int.sub_mul, Int.mul_sub, Int.one_mul, Int.mul_comm c a, Int.mul_assoc, Int.mul_comm c b, Int.mul_comm b c]
theorem Lev.lower {n k : Nat} {xss : List (List Int)} : ∀ {t l s : Nat}, Lev n xss t k l → t ≤ k → s ≤ t → ∃ m, Lev n xss s k m
  | 0, l, s, h, _, hs => by obtain rfl : s = 0 := by omega
                            exact ⟨l, h⟩
  | t + 1, l, s, h, hk, hs => by
    by_cases e : s = t + 1
    · subst e; exact ⟨l, h⟩
    · obtain ⟨m, hm, _⟩ := h.down (by omega)
      exact hm.lower (by omega) (by omega)
theorem both_level {n t k l : Nat} {xss : List (List Int)} (h : Lev n xss t k l) (hk : t ≤ k) : ∀ (q s : Nat), s + q ≤ t → ∃ c : Int, ∀ S T : List Nat, S.length = s → T.length = q → (S ++ T).Nodup → (∀ x ∈ S ++ T, x < n) → bothN xss S T = c
  | 0, s, hs => by
    obtain ⟨m, hm⟩ := h.lower hk (show s ≤ t by omega)
    refine ⟨m, fun S T h1 h2 h3 h4 => ?_⟩
    obtain rfl := List.eq_nil_of_length_eq_zero h2
    rw [List.append_nil] at h3 h4
    rw [← hm.lev S h3 h4 h1, lamP_sum]
    exact sumL_congr fun i _ => by show _ * ind true = _; rw [ind_true, Int.mul_one]
  | q + 1, s, hs => by
    obtain ⟨c1, g1⟩ := both_level h hk q s (by omega)
    obtain ⟨c2, g2⟩ := both_level h hk q (s + 1) (by omega)
    refine ⟨c1 - c2, fun S T h1 h2 h3 h4 => ?_⟩
    match T, h2 with
    | y :: T, h2 =>
      simp only [List.length_cons, Nat.add_right_cancel_iff] at h2
      have p : (S ++ y :: T).Perm (y :: S ++ T) := List.perm_middle
      have h3' := p.nodup_iff.1 h3
      have h4' : ∀ x ∈ y :: S ++ T, x < n := fun x hx => h4 x (p.mem_iff.2 hx)
      rw [both_cons, g1 S T h1 h2 (List.nodup_cons.1 (show (y :: (S ++ T)).Nodup from h3')).2 (fun x hx => h4' x (List.mem_cons_of_mem _ hx)), g2 (y :: S) T (by simp [h1]) h2 h3' h4']
theorem comp_lam {n : Nat} {xss : List (List Int)} {P : List Nat} (hP : ∀ x ∈ P, x < n) : (lamP (compL n xss) P : Int) = bothN xss [] P := by
  rw [lamP_sum, compL_len]
  unfold bothN
  refine sumL_congr fun i hi => ?_
  rw [List.mem_range] at hi
  show _ = ind true * _
  rw [ind_true, Int.one_mul]
  refine ind_iff ?_
  unfold holdP noneP
  rw [List.all_eq_true, List.all_eq_true]
  constructor
  · intro g x hx; rw [← compL_in hi (hP x hx)]; exact g x hx
  · intro g x hx
    show ptB (compL n xss) i x = true
    rw [compL_in hi (hP x hx)]; exact g x hx
theorem Lev.comp {n t k l : Nat} {xss : List (List Int)} (h : Lev n xss t k l) (hk : t ≤ k) : ∃ m, Lev n (compL n xss) t (n - k) m := by
  obtain ⟨c, hc⟩ := both_level h hk t 0 (by omega)
  refine ⟨c.toNat, compL_des h.des, h.t4, h.tn, by rw [compL_len]; exact h.ne, fun i hi => ?_, fun P h1 h2 h3 => ?_⟩
  · rw [compL_len] at hi
    rw [compL_rx hi, pickL_cnt]
    have e1 := block_count (h.des.all i hi)
    rw [h.uni i hi] at e1
    have e2 : ((cnt (offB (rx xss i)) n : Nat) : Int) = (n : Int) - k := by
      rw [cnt_sum, ← e1]
      have : (n : Int) = sumL (List.range n) (fun _ => 1) := by rw [sumL_const, List.length_range]; omega
      rw [this, ← sumL_sub]
      exact sumL_congr fun y _ => ind_not _
    omega
  · have := comp_lam (xss := xss) h2
    rw [hc [] P rfl h3 h1 h2] at this
    omega
end Go.Proofs.Ytkmcmahpfhlkhaa
