/-
  Plain law: Hall's theorem on what each has of its own (by Rado's way), and where all have as many. No program in sight. No condition.
-/
import Derived.Test.YtkmfhnjadpdkeaaGroup
namespace Go.Proofs.Ytkmfhnjadpdkeaa
open Go.RowKit

theorem sumTo_mono {f g : Nat → Nat} : ∀ n, (∀ i, i < n → f i ≤ g i) → sumTo f n ≤ sumTo g n
  | 0, _ => Nat.le_refl _
  | n + 1, h => by
    have h1 := sumTo_mono n (fun i hi => h i (by omega))
    have h2 := h n (by omega)
    rw [sumTo, sumTo]; omega
theorem sumTo_mulc (f : Nat → Nat) (c : Nat) : ∀ n, sumTo (fun i => c * f i) n = c * sumTo f n
  | 0 => by simp [sumTo]
  | n + 1 => by rw [sumTo, sumTo, sumTo_mulc f c n, Nat.mul_add]
theorem szB_le (n : Nat) (S : Nat → Bool) : szB n S ≤ n := by
  have := sumTo_mono (f := fun j => if S j then 1 else 0) (g := fun _ => 1) n (fun i _ => by show (if S i then 1 else 0) ≤ 1; split <;> omega)
  have e : ∀ m, sumTo (fun _ => 1) m = m := by intro m; induction m with | zero => rfl | succ m ih => rw [sumTo, ih]
  rw [e] at this; exact this
theorem szB_union (n : Nat) (S T : Nat → Bool) : szB n (fun j => S j || T j) + szB n (fun j => S j && T j) = szB n S + szB n T := by
  unfold szB
  rw [← sumTo_add, ← sumTo_add]
  refine sumTo_congr n fun i _ => ?_
  cases e1 : S i <;> cases e2 : T i <;> simp [e1, e2]
theorem szB_mono {n : Nat} {S T : Nat → Bool} (h : ∀ i, i < n → S i = true → T i = true) : szB n S ≤ szB n T := by
  refine sumTo_mono n fun i hi => ?_
  cases e : S i
  · simp
  · rw [h i hi e]; simp
theorem szB_congr {n : Nat} {S T : Nat → Bool} (h : ∀ i, i < n → S i = T i) : szB n S = szB n T :=
  sumTo_congr n fun i hi => by rw [h i hi]
theorem szB_one (n a : Nat) (h : a < n) : szB n (fun j => a == j) = 1 := by
  have := sumTo_delta a 1 n
  rw [if_pos h] at this
  rw [← this]
  exact sumTo_congr n fun i _ => by by_cases e : a = i <;> simp [e]
theorem szB_pos {n : Nat} {S : Nat → Bool} (h : 0 < szB n S) : ∃ i, i < n ∧ S i = true := by
  cases Classical.em (∃ i, i < n ∧ S i = true) with
  | inl h => exact h
  | inr hn =>
    have : szB n S = 0 := sumTo_zero n fun i hi => by
      cases e : S i
      · rfl
      · exact absurd ⟨i, hi, e⟩ hn
    omega

/-- Is one of the first n met? -/
def anyTo (f : Nat → Bool) : Nat → Bool
  | 0 => false
  | k + 1 => anyTo f k || f k
theorem anyTo_iff {f : Nat → Bool} : ∀ {n : Nat}, anyTo f n = true ↔ ∃ k, k < n ∧ f k = true
  | 0 => by simp [anyTo]
  | n + 1 => by
    rw [anyTo, Bool.or_eq_true, anyTo_iff (n := n)]
    constructor
    · rintro (⟨k, hk, e⟩ | e)
      · exact ⟨k, by omega, e⟩
      · exact ⟨n, by omega, e⟩
    · rintro ⟨k, hk, e⟩
      by_cases h : k = n
      · subst h; exact .inr e
      · exact .inl ⟨k, by omega, e⟩
/-- What some have together. -/
def nb (n : Nat) (A : Nat → Nat → Bool) (I : Nat → Bool) (x : Nat) : Bool := anyTo (fun i => I i && A i x) n
theorem nb_iff {n : Nat} {A : Nat → Nat → Bool} {I : Nat → Bool} {x : Nat} : nb n A I x = true ↔ ∃ i, i < n ∧ I i = true ∧ A i x = true := by
  unfold nb; rw [anyTo_iff]
  constructor
  · rintro ⟨i, hi, e⟩; rw [Bool.and_eq_true] at e; exact ⟨i, hi, e.1, e.2⟩
  · rintro ⟨i, hi, e1, e2⟩; exact ⟨i, hi, by rw [e1, e2]; rfl⟩
def HallC (n m : Nat) (A : Nat → Nat → Bool) : Prop := ∀ I : Nat → Bool, szB n I ≤ szB m (nb n A I)
def dropP (A : Nat → Nat → Bool) (i x : Nat) (j y : Nat) : Bool := A j y && !(i == j && x == y)
theorem dropP_true {A : Nat → Nat → Bool} {i x j y : Nat} : dropP A i x j y = true ↔ A j y = true ∧ ¬ (i = j ∧ x = y) := by
  unfold dropP; rw [Bool.and_eq_true, Bool.not_eq_true', Bool.and_eq_false_iff]
  constructor
  · rintro ⟨h1, h2⟩
    refine ⟨h1, fun ⟨e1, e2⟩ => ?_⟩
    subst e1; subst e2; simp at h2
  · rintro ⟨h1, h2⟩
    refine ⟨h1, ?_⟩
    by_cases e : i = j
    · right; simp; exact fun e2 => h2 ⟨e, e2⟩
    · left; simp [e]

theorem rado {n m : Nat} {A : Nat → Nat → Bool} (h : HallC n m A) {i x y : Nat} (hi : i < n) (hne : x ≠ y) (_hx : A i x = true) (_hy : A i y = true) :
    HallC n m (dropP A i x) ∨ HallC n m (dropP A i y) := by
  cases Classical.em (HallC n m (dropP A i x)) with
  | inl h1 => exact .inl h1
  | inr h1 =>
    refine .inr fun J => ?_
    cases Nat.lt_or_ge (szB m (nb n (dropP A i y) J)) (szB n J) with
    | inr h => exact h
    | inl hJ =>
      exfalso
      obtain ⟨I, hI⟩ : ∃ I, szB m (nb n (dropP A i x) I) < szB n I := by
        cases Classical.em (∃ I, szB m (nb n (dropP A i x) I) < szB n I) with
        | inl h => exact h
        | inr h2 => exact absurd (fun I => Nat.le_of_not_lt fun hl => h2 ⟨I, hl⟩) h1
      have key : ∀ (z : Nat) (K : Nat → Bool), szB m (nb n (dropP A i z) K) < szB n K → K i = true := by
        intro z K hK
        cases e : K i
        · have := h K
          have e2 : szB m (nb n A K) ≤ szB m (nb n (dropP A i z) K) := szB_mono fun q _ hq => by
            obtain ⟨j, hj, a, b⟩ := nb_iff.1 hq
            refine nb_iff.2 ⟨j, hj, a, dropP_true.2 ⟨b, fun ⟨e3, _⟩ => ?_⟩⟩
            subst e3; rw [a] at e; cases e
          omega
        · rfl
      have hIi := key x I hI
      have hJi := key y J hJ
      -- the union
      have u1 := h (fun j => I j || J j)
      have u2 : szB m (nb n A (fun j => I j || J j)) ≤ szB m (fun q => nb n (dropP A i x) I q || nb n (dropP A i y) J q) := szB_mono fun q _ hq => by
        obtain ⟨j, hj, a, b⟩ := nb_iff.1 hq
        rw [Bool.or_eq_true]
        by_cases e : i = j
        · subst e
          by_cases e2 : x = q
          · right; exact nb_iff.2 ⟨i, hj, hJi, dropP_true.2 ⟨b, fun ⟨_, e3⟩ => hne (e2.trans e3.symm)⟩⟩
          · left; exact nb_iff.2 ⟨i, hj, hIi, dropP_true.2 ⟨b, fun ⟨_, e3⟩ => e2 e3⟩⟩
        · rcases (Bool.or_eq_true _ _).mp a with a | a
          · left; exact nb_iff.2 ⟨j, hj, a, dropP_true.2 ⟨b, fun ⟨e3, _⟩ => e e3⟩⟩
          · right; exact nb_iff.2 ⟨j, hj, a, dropP_true.2 ⟨b, fun ⟨e3, _⟩ => e e3⟩⟩
      have v1 := h (fun j => (I j && J j) && !(i == j))
      have v2 : szB m (nb n A (fun j => (I j && J j) && !(i == j))) ≤ szB m (fun q => nb n (dropP A i x) I q && nb n (dropP A i y) J q) := szB_mono fun q _ hq => by
        obtain ⟨j, hj, a, b⟩ := nb_iff.1 hq
        rw [Bool.and_eq_true, Bool.and_eq_true] at a
        obtain ⟨⟨a1, a2⟩, a3⟩ := a
        have e : i ≠ j := by simpa using a3
        rw [Bool.and_eq_true]
        exact ⟨nb_iff.2 ⟨j, hj, a1, dropP_true.2 ⟨b, fun ⟨e3, _⟩ => e e3⟩⟩, nb_iff.2 ⟨j, hj, a2, dropP_true.2 ⟨b, fun ⟨e3, _⟩ => e e3⟩⟩⟩
      have w1 := szB_union m (nb n (dropP A i x) I) (nb n (dropP A i y) J)
      have w2 := szB_union n I J
      have w3 : szB n (fun j => I j && J j) = szB n (fun j => (I j && J j) && !(i == j)) + 1 := by
        have := szB_union n (fun j => (I j && J j) && !(i == j)) (fun j => i == j)
        rw [szB_one n i hi] at this
        rw [← this]
        have z : szB n (fun j => ((I j && J j) && !(i == j)) && (i == j)) = 0 := sumTo_zero n fun j _ => by cases e1 : I j <;> cases e2 : J j <;> cases e3 : (i == j) <;> simp [e1, e2, e3]
        rw [z, Nat.add_zero]
        refine szB_congr fun j _ => ?_
        by_cases e : i = j
        · subst e; rw [hIi, hJi]; simp
        · have : (i == j) = false := by simp [e]
          rw [this]; simp
      omega

def tot (n m : Nat) (A : Nat → Nat → Bool) : Nat := sumTo (fun i => szB m (A i)) n
theorem tot_drop {n m : Nat} {A : Nat → Nat → Bool} {i x : Nat} (hi : i < n) (hx : x < m) (h : A i x = true) : tot n m (dropP A i x) < tot n m A := by
  have key : tot n m A = tot n m (dropP A i x) + 1 := by
    have e : ∀ j, j < n → szB m (A j) = szB m (dropP A i x j) + (if i = j then 1 else 0) := by
      intro j _
      by_cases e : i = j
      · subst e
        rw [if_pos rfl]
        have := szB_union m (dropP A i x i) (fun q => x == q)
        rw [szB_one m x hx] at this
        rw [← this]
        have z : szB m (fun q => dropP A i x i q && (x == q)) = 0 := sumTo_zero m fun q _ => by
          unfold dropP
          cases A i q <;> cases (x == q) <;> simp
        rw [z, Nat.add_zero]
        refine szB_congr fun q _ => ?_
        unfold dropP
        by_cases e2 : x = q
        · subst e2; rw [h]; simp
        · have : (x == q) = false := by simp [e2]
          rw [this]; simp
      · rw [if_neg e, Nat.add_zero]
        refine szB_congr fun q _ => ?_
        unfold dropP
        have : (i == j) = false := by simp [e]
        rw [this]; simp
    unfold tot
    rw [sumTo_congr n e, sumTo_add, sumTo_delta, if_pos hi]
  omega

/-- Hall: where some have together as many, each has one of its own. -/
theorem hall {n m : Nat} : ∀ (k : Nat) (A : Nat → Nat → Bool), tot n m A ≤ k → HallC n m A → ∃ f : Nat → Nat, (∀ i, i < n → f i < m ∧ A i (f i) = true) ∧ ∀ i j, i < n → j < n → f i = f j → i = j := by
  intro k
  induction k with
  | zero =>
    intro A h0 h
    refine ⟨fun _ => 0, fun i hi => ?_, fun i j hi _ _ => ?_⟩
    all_goals
      exfalso
      have h1 := h (fun j => i == j)
      rw [szB_one n i hi] at h1
      obtain ⟨x, hx, hb⟩ := szB_pos (show 0 < szB m (nb n A (fun j => i == j)) by omega)
      obtain ⟨j, hj, a, b⟩ := nb_iff.1 hb
      have := tot_drop hj hx b
      omega
  | succ k ih =>
    intro A hk h
    cases Classical.em (∃ i x y, i < n ∧ x < m ∧ y < m ∧ x ≠ y ∧ A i x = true ∧ A i y = true) with
    | inl hex =>
      obtain ⟨i, x, y, hi, hx, hy, hne, hax, hay⟩ := hex
      have fin : ∀ z, z < m → A i z = true → HallC n m (dropP A i z) → ∃ f : Nat → Nat, (∀ i, i < n → f i < m ∧ A i (f i) = true) ∧ ∀ i j, i < n → j < n → f i = f j → i = j := by
        intro z hz haz hh
        obtain ⟨f, h1, h2⟩ := ih (dropP A i z) (by have := tot_drop hi hz haz; omega) hh
        exact ⟨f, fun j hj => ⟨(h1 j hj).1, (dropP_true.1 (h1 j hj).2).1⟩, h2⟩
      rcases rado h hi hne hax hay with hh | hh
      · exact fin x hx hax hh
      · exact fin y hy hay hh
    | inr hno =>
      have one : ∀ i, i < n → ∃ x, x < m ∧ A i x = true := by
        intro i hi
        have h1 := h (fun j => i == j)
        rw [szB_one n i hi] at h1
        obtain ⟨x, hx, hb⟩ := szB_pos (show 0 < szB m (nb n A (fun j => i == j)) by omega)
        obtain ⟨j, hj, a, b⟩ := nb_iff.1 hb
        have : i = j := by simpa using a
        subst this
        exact ⟨x, hx, b⟩
      refine ⟨fun i => if hi : i < n then (one i hi).choose else 0, fun i hi => ?_, fun i j hi hj he => ?_⟩
      · show (if hi : i < n then (one i hi).choose else 0) < m ∧ A i (if hi : i < n then (one i hi).choose else 0) = true
        rw [dif_pos hi]; exact (one i hi).choose_spec
      · replace he : (if hi : i < n then (one i hi).choose else 0) = (if hj : j < n then (one j hj).choose else 0) := he
        rw [dif_pos hi, dif_pos hj] at he
        obtain ⟨hx, hax⟩ := (one i hi).choose_spec
        obtain ⟨_, hbx⟩ := (one j hj).choose_spec
        rw [← he] at hbx
        generalize (one i hi).choose = x at hx hax hbx
        cases Classical.em (i = j) with
        | inl e => exact e
        | inr e =>
          exfalso
          have h1 := h (fun q => i == q || j == q)
          have h2 := szB_union n (fun q => i == q) (fun q => j == q)
          rw [szB_one n i hi, szB_one n j hj] at h2
          have z : szB n (fun q => (i == q) && (j == q)) = 0 := sumTo_zero n fun q _ => by
            by_cases e1 : i = q
            · have : ¬ j = q := by omega
              simp [this]
            · simp [e1]
          have h3 : szB m (nb n A (fun q => i == q || j == q)) ≤ szB m (fun q => x == q) := szB_mono fun q hq hb => by
            obtain ⟨p, hp, a, b⟩ := nb_iff.1 hb
            have : i = p ∨ j = p := by simpa using a
            have hap : A p x = true := by rcases this with rfl | rfl <;> assumption
            cases Classical.em (x = q) with
            | inl e3 => simp [e3]
            | inr e3 => exact absurd ⟨p, x, q, hp, hx, hq, e3, hap, b⟩ hno
          rw [szB_one m x hx] at h3
          omega

/-- Where each has d, and each is had by d: Hall's condition. -/
theorem hall_regular {n m d : Nat} {A : Nat → Nat → Bool} (hd : 0 < d) (h1 : ∀ i, i < n → szB m (A i) = d) (h2 : ∀ x, x < m → szB n (fun i => A i x) = d) : HallC n m A := by
  intro I
  have e1 : sumTo (fun i => sumTo (fun x => if I i && A i x then 1 else 0) m) n = d * szB n I := by
    unfold szB; rw [← sumTo_mulc]
    refine sumTo_congr n fun i hi => ?_
    cases e : I i
    · simp only [Bool.false_and]
      exact sumTo_zero m fun _ _ => rfl
    · simp only [Bool.true_and]
      have := h1 i hi
      unfold szB at this
      rw [this]; simp
  have e2 : sumTo (fun x => sumTo (fun i => if I i && A i x then 1 else 0) n) m ≤ d * szB m (nb n A I) := by
    unfold szB; rw [← sumTo_mulc]
    refine sumTo_mono m fun x hx => ?_
    cases e : nb n A I x
    · have : sumTo (fun i => if I i && A i x then 1 else 0) n = 0 := sumTo_zero n fun i hi => by
        cases e3 : (I i && A i x)
        · rfl
        · rw [Bool.and_eq_true] at e3
          have := nb_iff.2 ⟨i, hi, e3.1, e3.2⟩
          rw [this] at e; cases e
      rw [this]; exact Nat.zero_le _
    · have h3 := h2 x hx
      have : sumTo (fun i => if I i && A i x then 1 else 0) n ≤ szB n (fun i => A i x) := sumTo_mono n fun i _ => by
        cases e3 : I i <;> cases e4 : A i x <;> simp [e4]
      rw [h3] at this
      simpa using this
  rw [sumTo_swap] at e1
  have e3 : d * szB n I ≤ d * szB m (nb n A I) := by omega
  exact Nat.le_of_mul_le_mul_left e3 hd
end Go.Proofs.Ytkmfhnjadpdkeaa
