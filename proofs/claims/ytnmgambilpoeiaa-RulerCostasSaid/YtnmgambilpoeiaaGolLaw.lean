/-
  Plain words: the differences of some marks; the rulers of a length, the first by order. No program in sight. No condition.
-/
import Derived.Test.YtnmgambilpoeiaaFsome
namespace Go.Proofs.Ytnmgambilpoeiaa
open Go.RowKit

/-- The differences of mark i with the first of the others, behind those that there are. -/
def dRow (l : List Int) (i : Nat) (acc : List Int) : Nat → List Int
  | 0 => acc
  | j + 1 => dRow l i acc j ++ [ix l i - ix l j]
def dAll (l : List Int) : Nat → List Int
  | 0 => []
  | i + 1 => dRow l i (dAll l i) i
def nodB (xs : List Int) : Bool := decide xs.Nodup
def golB (l : List Int) : Bool := nodB (dAll l l.length)
theorem nodB_snoc (xs : List Int) (x : Int) : nodB (xs ++ [x]) = (nodB xs && !mem xs x) := by
  unfold nodB
  rw [Bool.eq_iff_iff]
  simp only [decide_eq_true_eq, Bool.and_eq_true, Bool.not_eq_true']
  rw [List.nodup_append, ← Bool.not_eq_true, mem_iff]
  constructor
  · rintro ⟨h1, _, h3⟩
    exact ⟨h1, fun h => h3 x h x (by simp) rfl⟩
  · rintro ⟨h1, h2⟩
    refine ⟨h1, by simp, fun a ha b hb e => ?_⟩
    simp at hb
    subst hb; subst e
    exact h2 ha
theorem dRow_pre (l : List Int) (i : Nat) (acc : List Int) {j j' : Nat} (h : j ≤ j') : ∃ t, dRow l i acc j' = dRow l i acc j ++ t := by
  induction j' with
  | zero => have : j = 0 := by omega
            subst this; exact ⟨[], by simp⟩
  | succ j' ih =>
    by_cases e : j = j' + 1
    · subst e; exact ⟨[], by simp⟩
    · obtain ⟨t, ht⟩ := ih (by omega)
      exact ⟨t ++ [ix l i - ix l j'], by rw [dRow, ht, List.append_assoc]⟩
theorem dAll_pre (l : List Int) {i i' : Nat} (h : i ≤ i') : ∃ t, dAll l i' = dAll l i ++ t := by
  induction i' with
  | zero => have : i = 0 := by omega
            subst this; exact ⟨[], by simp⟩
  | succ i' ih =>
    by_cases e : i = i' + 1
    · subst e; exact ⟨[], by simp⟩
    · obtain ⟨t, ht⟩ := ih (by omega)
      obtain ⟨s, hs⟩ := dRow_pre l i' (dAll l i') (Nat.zero_le i')
      exact ⟨t ++ s, by rw [dAll, hs, dRow, ht, List.append_assoc]⟩
theorem nodB_pre {xs t : List Int} (h : nodB (xs ++ t) = true) : nodB xs = true := by
  unfold nodB at h ⊢
  simp only [decide_eq_true_eq] at h ⊢
  exact (List.nodup_append.1 h).1
/-- A difference that stands there already. -/
theorem gol_hit {l : List Int} {i j : Nat} (hj : j < i) (hi : i < l.length) (h : mem (dRow l i (dAll l i) j) (ix l i - ix l j) = true) : golB l = false := by
  cases e : golB l
  · rfl
  · exfalso
    obtain ⟨t, ht⟩ := dAll_pre l (show i + 1 ≤ l.length by omega)
    obtain ⟨s, hs⟩ := dRow_pre l i (dAll l i) (show j + 1 ≤ i by omega)
    unfold golB at e
    rw [ht, dAll, hs, List.append_assoc] at e
    have := nodB_pre e
    rw [dRow, nodB_snoc, h] at this
    simp at this
theorem dRow_len (l : List Int) (i : Nat) (acc : List Int) : ∀ j, (dRow l i acc j).length = acc.length + j
  | 0 => rfl
  | j + 1 => by rw [dRow, List.length_append, dRow_len l i acc j]; simp; omega
theorem dAll_len (l : List Int) (i : Nat) : (dAll l i).length ≤ i * i := by
  induction i with
  | zero => simp [dAll]
  | succ i ih => rw [dAll, dRow_len, Nat.add_mul, Nat.mul_add]; omega
theorem dRow_append (l t : List Int) (acc : List Int) {i : Nat} (hi : i < l.length) : ∀ j, j ≤ i → dRow (l ++ t) i acc j = dRow l i acc j
  | 0, _ => rfl
  | j + 1, h => by
    have e : ∀ k, k < l.length → ix (l ++ t) k = ix l k := fun k hk => by unfold ix; rw [List.getD_eq_getElem?_getD, List.getD_eq_getElem?_getD, List.getElem?_append_left hk]
    rw [dRow, dRow, dRow_append l t acc hi j (by omega), e i hi, e j (by omega)]
theorem dAll_append (l t : List Int) : ∀ i, i ≤ l.length → dAll (l ++ t) i = dAll l i
  | 0, _ => rfl
  | i + 1, h => by rw [dAll, dAll, dAll_append l t i (by omega), dRow_append l t _ (by omega) i (Nat.le_refl _)]
theorem gol_pre {l t : List Int} (h : golB (l ++ t) = true) : golB l = true := by
  unfold golB at h ⊢
  obtain ⟨s, hs⟩ := dAll_pre (l ++ t) (show l.length ≤ (l ++ t).length by simp)
  rw [hs, dAll_append l t _ (Nat.le_refl _)] at h
  exact nodB_pre h

/-- The last mark. -/
def lastM (l : List Int) : Int := ix l (l.length - 1)
theorem lastM_snoc (l : List Int) (x : Int) : lastM (l ++ [x]) = x := by
  unfold lastM ix; simp
/-- The first ruler that goes on by k marks and ends at a length. -/
def mk (e : Int) : Nat → List Int → Option (List Int)
  | 0, l => if lastM l = e then some l else none
  | k + 1, l => fsome (fun d => if golB (l ++ [lastM l + 1 + d]) then mk e k (l ++ [lastM l + 1 + d]) else none) (e - lastM l).toNat
def mkF (e : Int) (k : Nat) (l : List Int) (d : Nat) : Option (List Int) := if golB (l ++ [lastM l + 1 + d]) then mk e k (l ++ [lastM l + 1 + d]) else none
theorem mk_succ (e : Int) (k : Nat) (l : List Int) : mk e (k + 1) l = fsome (mkF e k l) (e - lastM l).toNat := rfl
theorem mk_le {e : Int} : ∀ {k : Nat} {l r : List Int}, mk e k l = some r → lastM l + k ≤ e
  | 0, l, r, h => by
    rw [mk] at h
    by_cases hl : lastM l = e
    · omega
    · rw [if_neg hl] at h; cases h
  | k + 1, l, r, h => by
    rw [mk_succ] at h
    obtain ⟨d, hd, hf⟩ := fsome_some h
    unfold mkF at hf
    cases eg : golB (l ++ [lastM l + 1 + d])
    · rw [eg] at hf; cases hf
    · rw [eg] at hf
      have := mk_le (k := k) hf
      rw [lastM_snoc] at this
      omega
theorem mkF_none {e : Int} {k : Nat} {l : List Int} {d : Nat} (h : e < lastM l + 1 + d + k) : mkF e k l d = none := by
  cases hf : mkF e k l d with
  | none => rfl
  | some r =>
    unfold mkF at hf
    cases eg : golB (l ++ [lastM l + 1 + d])
    · rw [eg] at hf; cases hf
    · rw [eg] at hf
      have := mk_le hf
      rw [lastM_snoc] at this
      omega
theorem fsome_none {α : Type} {f : Nat → Option α} : ∀ n, (∀ k, k < n → f k = none) → fsome f n = none
  | 0, _ => rfl
  | n + 1, h => by rw [fsome, fsome_none n (fun k hk => h k (by omega)), h n (by omega)]
theorem fsome_tail {α : Type} {f : Nat → Option α} {m : Nat} : ∀ {n : Nat}, m ≤ n → (∀ k, m ≤ k → k < n → f k = none) → fsome f n = fsome f m
  | 0, h, _ => by have : m = 0 := by omega
                  subst this; rfl
  | n + 1, h, hf => by
    by_cases e : m = n + 1
    · subst e; rfl
    · rw [fsome, fsome_tail (n := n) (by omega) (fun k h1 h2 => hf k h1 (by omega)), hf n (by omega) (by omega)]
      cases fsome f m <;> rfl
/-- Marks that leave too little room need not be tried. -/
theorem mk_room (e : Int) (k : Nat) (l : List Int) : mk e (k + 1) l = fsome (mkF e k l) (e - k - lastM l).toNat := by
  rw [mk_succ]
  exact fsome_tail (by omega) fun d h1 h2 => mkF_none (by omega)
/-- The last mark can only be the end. -/
theorem mk_one {e : Int} {l : List Int} (h : lastM l < e) : mk e 1 l = mkF e 0 l (e - lastM l - 1).toNat := by
  rw [mk_succ]
  have hd : (e - lastM l).toNat = (e - lastM l - 1).toNat + 1 := by omega
  rw [hd]
  refine fsome_next (fsome_none _ fun d hd => ?_)
  unfold mkF
  cases golB (l ++ [lastM l + 1 + d])
  · rfl
  · show mk e 0 _ = none
    rw [mk, lastM_snoc, if_neg (by omega)]
theorem mk_one_none {e : Int} {l : List Int} (h : e ≤ lastM l) : mk e 1 l = none := by
  rw [mk_succ]
  have : (e - lastM l).toNat = 0 := by omega
  rw [this]; rfl
/-- Where there is a ruler, one is found. -/
theorem mk_isSome {e : Int} : ∀ {zs l : List Int}, golB (l ++ zs) = true → lastM (l ++ zs) = e → (∀ i, l.length ≤ i + 1 → i + 1 < (l ++ zs).length → ix (l ++ zs) i < ix (l ++ zs) (i + 1)) → 0 < l.length → (mk e zs.length l).isSome = true
  | [], l, _, h2, _, _ => by
    rw [List.append_nil] at h2
    show (mk e 0 l).isSome = true
    rw [mk, if_pos h2]; rfl
  | z :: zs, l, h1, h2, h3, h4 => by
    have ea : l ++ z :: zs = (l ++ [z]) ++ zs := by simp
    rw [ea] at h1 h2 h3
    have hz : lastM l < z := by
      have := h3 (l.length - 1) (by omega) (by simp; omega)
      have e1 : ix ((l ++ [z]) ++ zs) (l.length - 1) = lastM l := by
        unfold lastM ix
        rw [List.append_assoc, List.getD_eq_getElem?_getD, List.getD_eq_getElem?_getD, List.getElem?_append_left (by omega)]
      have e2 : ix ((l ++ [z]) ++ zs) (l.length - 1 + 1) = z := by
        have : l.length - 1 + 1 = l.length := by omega
        rw [this]; unfold ix; simp
      rw [e1, e2] at this; exact this
    have ih := mk_isSome (zs := zs) (l := l ++ [z]) h1 h2 (fun i hi hj => h3 i (by simp at hi; omega) hj) (by simp)
    have hle : z + zs.length ≤ e := by
      cases hm : mk e zs.length (l ++ [z]) with
      | none => rw [hm] at ih; cases ih
      | some r => have := mk_le hm; rw [lastM_snoc] at this; omega
    show (mk e (zs.length + 1) l).isSome = true
    rw [mk_succ]
    refine fsome_isSome (k := (z - lastM l - 1).toNat) (by omega) ?_
    unfold mkF
    have ez : lastM l + 1 + ((z - lastM l - 1).toNat : Int) = z := by omega
    rw [ez, gol_pre h1]
    exact ih
end Go.Proofs.Ytnmgambilpoeiaa
