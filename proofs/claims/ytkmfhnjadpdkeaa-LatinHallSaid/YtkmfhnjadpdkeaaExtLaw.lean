/-
  Plain law: Latin rectangles can go on (by Hall's theorem); the first square row by row is the first square cell by cell. No program in sight. No condition.
-/
import Derived.Test.YtkmfhnjadpdkeaaHall
import Derived.Test.YtkmfhnjadpdkeaaLatin3
namespace Go.Proofs.Ytkmfhnjadpdkeaa
open Go.RowKit

theorem clash_iff {n : Nat} {xs : List Int} {i k : Nat} : clash n xs i k = true ↔ ix xs i = ix xs k ∧ (dv i n = dv k n ∨ md i n = md k n) := by
  constructor
  · intro h
    unfold clash at h
    have e3 : ((i : Int) % n == (k : Int) % n) = (md i n == md k n) := by
      rw [Bool.eq_iff_iff]; unfold md; simp only [beq_iff_eq]; omega
    rw [e3] at h
    simpa using h
  · rintro ⟨a, b⟩; exact clash_same a b
theorem clashRow_iff {n : Nat} {xs : List Int} {i : Nat} : ∀ {m : Nat}, clashRow n xs i m = true ↔ ∃ k, k < m ∧ clash n xs i k = true
  | 0 => by simp [clashRow]
  | m + 1 => by
    rw [clashRow, Bool.or_eq_true, clashRow_iff (m := m)]
    constructor
    · rintro (⟨k, hk, e⟩ | e)
      · exact ⟨k, by omega, e⟩
      · exact ⟨m, by omega, e⟩
    · rintro ⟨k, hk, e⟩
      by_cases h : k = m
      · subst h; exact .inr e
      · exact .inl ⟨k, by omega, e⟩
theorem clashTo_iff {n : Nat} {xs : List Int} : ∀ {m : Nat}, clashTo n xs m = true ↔ ∃ i k, i < m ∧ k < i ∧ clash n xs i k = true
  | 0 => by simp [clashTo]
  | m + 1 => by
    rw [clashTo, Bool.or_eq_true, clashTo_iff (m := m), clashRow_iff]
    constructor
    · rintro (⟨i, k, hi, hk, e⟩ | ⟨k, hk, e⟩)
      · exact ⟨i, k, by omega, hk, e⟩
      · exact ⟨m, k, by omega, hk, e⟩
    · rintro ⟨i, k, hi, hk, e⟩
      by_cases h : i = m
      · subst h; exact .inr ⟨k, hk, e⟩
      · exact .inl ⟨i, k, by omega, hk, e⟩
theorem onceB_iff {n : Nat} {xs : List Int} : onceB n xs = true ↔ ∀ i k, i < xs.length → k < i → clash n xs i k = false := by
  unfold onceB
  rw [Bool.not_eq_true', ← Bool.not_eq_true, clashTo_iff]
  constructor
  · intro h i k hi hk
    cases e : clash n xs i k
    · rfl
    · exact absurd ⟨i, k, hi, hk, e⟩ h
  · rintro h ⟨i, k, hi, hk, e⟩
    rw [h i k hi hk] at e; cases e
theorem clash_append {n : Nat} {xs ys : List Int} {i k : Nat} (hi : i < xs.length) (hk : k < xs.length) : clash n (xs ++ ys) i k = clash n xs i k := by
  unfold clash; rw [ix_append hi, ix_append hk]
theorem onceB_append {n : Nat} {xs ys : List Int} (h : onceB n (xs ++ ys) = true) : onceB n xs = true :=
  onceB_iff.2 fun i k hi hk => by
    rw [← clash_append (ys := ys) hi (by omega)]
    exact onceB_iff.1 h i k (by rw [List.length_append]; omega) hk

/-- Does a number fit behind some cells? -/
def fitB (n : Nat) (xs : List Int) (c : Nat) : Bool := !clashRow n (xs ++ [(c : Int)]) xs.length xs.length
theorem onceB_snoc {n : Nat} {xs : List Int} {c : Nat} (h : onceB n xs = true) : onceB n (xs ++ [(c : Int)]) = fitB n xs c := by
  rw [Bool.eq_iff_iff]
  unfold fitB
  rw [Bool.not_eq_true', ← Bool.not_eq_true, clashRow_iff, onceB_iff]
  constructor
  · rintro h1 ⟨k, hk, e⟩
    rw [h1 xs.length k (by simp) hk] at e; cases e
  · intro h1 i k hi hk
    rw [List.length_append] at hi
    by_cases e : i < xs.length
    · rw [clash_append e (by omega)]; exact onceB_iff.1 h i k e hk
    · have : i = xs.length := by simp at hi; omega
      subst this
      cases e2 : clash n (xs ++ [(c : Int)]) xs.length k
      · rfl
      · exact absurd ⟨k, hk, e2⟩ h1

/-- The first that is there. -/
def fsome {α : Type} (f : Nat → Option α) : Nat → Option α
  | 0 => none
  | k + 1 => match fsome f k with
    | some a => some a
    | none => f k
theorem fsome_next {α : Type} {f : Nat → Option α} {k : Nat} (h : fsome f k = none) : fsome f (k + 1) = f k := by rw [fsome, h]
theorem fsome_hit {α : Type} {f : Nat → Option α} {k : Nat} {a : α} (h : fsome f k = none) (e : f k = some a) : ∀ {n : Nat}, k < n → fsome f n = some a
  | 0, hk => by omega
  | n + 1, hk => by
    by_cases hn : k = n
    · subst hn; rw [fsome_next h, e]
    · rw [fsome, fsome_hit h e (n := n) (by omega)]
theorem fsome_congr {α : Type} {f g : Nat → Option α} : ∀ n, (∀ k, k < n → f k = g k) → fsome f n = fsome g n
  | 0, _ => rfl
  | n + 1, h => by rw [fsome, fsome, fsome_congr n (fun k hk => h k (by omega)), h n (by omega)]
theorem fsome_some {α : Type} {f : Nat → Option α} {a : α} : ∀ {n : Nat}, fsome f n = some a → ∃ k, k < n ∧ f k = some a
  | 0, h => by cases h
  | n + 1, h => by
    rw [fsome] at h
    cases e : fsome f n with
    | none => rw [e] at h; exact ⟨n, by omega, h⟩
    | some b =>
      rw [e] at h
      obtain ⟨k, hk, hf⟩ := fsome_some (n := n) e
      exact ⟨k, by omega, by rw [hf]; exact h⟩
theorem fsome_isSome {α : Type} {f : Nat → Option α} {k : Nat} : ∀ {n : Nat}, k < n → (f k).isSome = true → (fsome f n).isSome = true
  | 0, h, _ => by omega
  | n + 1, h, e => by
    rw [fsome]
    cases e2 : fsome f n with
    | some a => rfl
    | none =>
      by_cases hk : k = n
      · subst hk; exact e
      · have := fsome_isSome (n := n) (k := k) (by omega) e
        rw [e2] at this; cases this
theorem fsome_bind {α β : Type} {f : Nat → Option α} {g : α → Option β} : ∀ n, (∀ k a, k < n → f k = some a → (g a).isSome = true) → fsome (fun k => (f k).bind g) n = (fsome f n).bind g
  | 0, _ => rfl
  | n + 1, h => by
    rw [fsome, fsome, fsome_bind n (fun k a hk => h k a (by omega))]
    cases e : fsome f n with
    | none => rfl
    | some a =>
      obtain ⟨k, hk, hf⟩ := fsome_some e
      have := h k a (by omega) hf
      show (match g a with | some b => some b | none => (f n).bind g) = g a
      cases e2 : g a with
      | none => rw [e2] at this; cases this
      | some b => rfl

/-- The first way to go on by l cells. -/
def goOn (n : Nat) : Nat → List Int → Option (List Int)
  | 0, xs => some xs
  | l + 1, xs => fsome (fun c => if fitB n xs c then goOn n l (xs ++ [(c : Int)]) else none) n
def goF (n l : Nat) (xs : List Int) (c : Nat) : Option (List Int) := if fitB n xs c then goOn n l (xs ++ [(c : Int)]) else none
theorem goOn_succ (n l : Nat) (xs : List Int) : goOn n (l + 1) xs = fsome (goF n l xs) n := rfl
def InN (n : Nat) (xs : List Int) : Prop := ∀ x ∈ xs, 0 ≤ x ∧ x < (n : Int)
theorem InN.snoc {n : Nat} {xs : List Int} {c : Nat} (h : InN n xs) (hc : c < n) : InN n (xs ++ [(c : Int)]) := by
  intro x hx
  rcases List.mem_append.1 hx with hx | hx
  · exact h x hx
  · simp at hx; omega
theorem goOn_spec {n : Nat} : ∀ {l : Nat} {xs ys : List Int}, goOn n l xs = some ys → onceB n xs = true → ∃ zs, ys = xs ++ zs ∧ zs.length = l ∧ InN n zs ∧ onceB n ys = true
  | 0, xs, ys, h, ho => by
    have : xs = ys := by simpa [goOn] using h
    subst this
    exact ⟨[], by simp, rfl, (fun x hx => by simp at hx), ho⟩
  | l + 1, xs, ys, h, ho => by
    rw [goOn_succ] at h
    obtain ⟨c, hc, hf⟩ := fsome_some h
    unfold goF at hf
    cases e : fitB n xs c
    · rw [e] at hf; cases hf
    · rw [e] at hf
      obtain ⟨zs, h1, h2, h3, h4⟩ := goOn_spec (l := l) hf (by rw [onceB_snoc ho, e])
      refine ⟨(c : Int) :: zs, by rw [h1]; simp, by simp [h2], fun x hx => ?_, h4⟩
      rcases List.mem_cons.1 hx with rfl | hx
      · omega
      · exact h3 x hx
theorem goOn_isSome {n : Nat} : ∀ {l : Nat} {xs zs : List Int}, zs.length = l → InN n zs → onceB n (xs ++ zs) = true → (goOn n l xs).isSome = true
  | 0, _, _, _, _, _ => rfl
  | l + 1, xs, zs, hl, hr, ho => by
    cases zs with
    | nil => cases hl
    | cons z zs =>
      have hz := hr z (by simp)
      obtain ⟨c, rfl⟩ := Int.eq_ofNat_of_zero_le hz.1
      have ho' : onceB n ((xs ++ [(c : Int)]) ++ zs) = true := by simpa using ho
      have h1 := onceB_append ho'
      have h2 := onceB_append h1
      rw [goOn_succ]
      refine fsome_isSome (k := c) (by omega) ?_
      unfold goF
      rw [← onceB_snoc h2, h1]
      exact goOn_isSome (by simpa using hl) (fun x hx => hr x (by simp [hx])) ho'
theorem goOn_split {n l2 : Nat} : ∀ {l1 : Nat} {xs : List Int}, onceB n xs = true → (∀ zs, zs.length = l1 → InN n zs → onceB n (xs ++ zs) = true → (goOn n l2 (xs ++ zs)).isSome = true) →
    goOn n (l1 + l2) xs = (goOn n l1 xs).bind (goOn n l2)
  | 0, xs, _, _ => by rw [Nat.zero_add]; rfl
  | l1 + 1, xs, ho, h => by
    have e : l1 + 1 + l2 = (l1 + l2) + 1 := by omega
    rw [e, goOn_succ, goOn_succ, ← fsome_bind]
    · refine fsome_congr n fun c hc => ?_
      unfold goF
      cases e : fitB n xs c
      · rfl
      · show goOn n (l1 + l2) (xs ++ [(c : Int)]) = (goOn n l1 (xs ++ [(c : Int)])).bind (goOn n l2)
        have h1 : onceB n (xs ++ [(c : Int)]) = true := by rw [onceB_snoc ho, e]
        refine goOn_split h1 fun zs hl hr hz => ?_
        rw [List.append_assoc] at hz ⊢
        refine h ([(c : Int)] ++ zs) (by simp [hl]) (fun x hx => ?_) hz
        rcases List.mem_append.1 hx with hx | hx
        · simp at hx; omega
        · exact hr x hx
    · intro c a hc hf
      unfold goF at hf
      cases e : fitB n xs c
      · rw [e] at hf; cases hf
      · rw [e] at hf
        have h1 : onceB n (xs ++ [(c : Int)]) = true := by rw [onceB_snoc ho, e]
        obtain ⟨zs, q1, q2, q3, q4⟩ := goOn_spec hf h1
        rw [q1, List.append_assoc] at q4 ⊢
        refine h ([(c : Int)] ++ zs) (by simp [q2]) (fun x hx => ?_) q4
        rcases List.mem_append.1 hx with hx | hx
        · simp at hx; omega
        · exact q3 x hx

/-- Some whole rows without a number twice in a row or column. -/
structure Rect (n r : Nat) (xs : List Int) : Prop where
  len : xs.length = r * n
  rng : InN n xs
  one : onceB n xs = true
theorem place_lt' {n r i j : Nat} (hi : i < r) (hj : j < n) : i * n + j < r * n := by
  have : (i + 1) * n ≤ r * n := Nat.mul_le_mul (by omega) (Nat.le_refl n)
  rw [Nat.add_mul] at this; omega
theorem once_apart {n : Nat} {xs : List Int} (h : onceB n xs = true) {i k : Nat} (hi : i < xs.length) (hk : k < xs.length) (he : ix xs i = ix xs k) (hs : dv i n = dv k n ∨ md i n = md k n) : i = k := by
  rcases Nat.lt_trichotomy i k with hl | rfl | hl
  · have := once_false h hl hk
    rw [clash_same he.symm (by rcases hs with e | e; exact .inl e.symm; exact .inr e.symm)] at this; cases this
  · rfl
  · have := once_false h hl hi
    rw [clash_same he hs] at this; cases this
section
variable {n r : Nat} {xs : List Int}
theorem Rect.cell (h : Rect n r xs) {i j : Nat} (hi : i < r) (hj : j < n) : 0 ≤ qat n xs i j ∧ qat n xs i j < n :=
  h.rng _ (ix_mem (by rw [h.len]; exact place_lt' hi hj))
theorem Rect.row_inj (h : Rect n r xs) {i j k : Nat} (hi : i < r) (hj : j < n) (hk : k < n) (he : qat n xs i j = qat n xs i k) : j = k := by
  have := once_apart h.one (by rw [h.len]; exact place_lt' hi hj) (by rw [h.len]; exact place_lt' hi hk) he (.inl (by rw [place_div hj, place_div hk]))
  omega
theorem Rect.col_inj (h : Rect n r xs) {i j k : Nat} (hi : i < n) (hj : j < r) (hk : k < r) (he : qat n xs j i = qat n xs k i) : j = k := by
  have := once_apart h.one (by rw [h.len]; exact place_lt' hj hi) (by rw [h.len]; exact place_lt' hk hi) he (.inr (by rw [place_mod hi, place_mod hi]))
  exact Nat.eq_of_mul_eq_mul_right (show 0 < n by omega) (by omega)
theorem Rect.row_has (h : Rect n r xs) {i : Nat} (hi : i < r) {b : Int} (hb : 0 ≤ b ∧ b < n) : ∃ j, j < n ∧ qat n xs i j = b := by
  obtain ⟨j, hj, he⟩ := pigeon n (fun j => (qat n xs i j).toNat) (fun j hj => by have := h.cell hi hj; show (qat n xs i j).toNat < n; omega)
    (fun j k hj hk he => by
      have h1 := h.cell hi hj; have h2 := h.cell hi hk
      replace he : (qat n xs i j).toNat = (qat n xs i k).toNat := he
      exact h.row_inj hi hj hk (by omega)) b.toNat (by omega)
  have h1 := h.cell hi hj
  replace he : (qat n xs i j).toNat = b.toNat := he
  exact ⟨j, hj, by omega⟩
/-- Does a number stand in a column? -/
def hasC (n r : Nat) (xs : List Int) (j c : Nat) : Bool := anyTo (fun i => qat n xs i j == (c : Int)) r
theorem sum_unique {P : Nat → Bool} : ∀ r, (∀ i k, i < r → k < r → P i = true → P k = true → i = k) → sumTo (fun i => if P i then 1 else 0) r = if anyTo P r then 1 else 0
  | 0, _ => rfl
  | r + 1, h => by
    rw [sumTo, sum_unique r (fun i k hi hk => h i k (by omega) (by omega)), anyTo]
    cases e : anyTo P r
    · cases e2 : P r <;> rfl
    · obtain ⟨k, hk, e3⟩ := anyTo_iff.1 e
      cases e2 : P r
      · rfl
      · have := h k r (by omega) (by omega) e3 e2; omega
theorem szB_not (n : Nat) (S : Nat → Bool) : szB n (fun j => !S j) + szB n S = n := by
  have h := szB_union n (fun j => !S j) S
  have e1 : szB n (fun j => !S j && S j) = 0 := sumTo_zero n fun j _ => by cases e : S j <;> simp
  have e2 : szB n (fun j => !S j || S j) = n := by
    have : ∀ m, szB m (fun j => !S j || S j) = m := by
      intro m
      induction m with
      | zero => rfl
      | succ m ih => rw [szB, sumTo]; rw [szB] at ih; rw [ih]; cases e : S m <;> simp
    exact this n
  omega
theorem sumTo_ones (n : Nat) : sumTo (fun _ => 1) n = n := by
  induction n with
  | zero => rfl
  | succ n ih => rw [sumTo, ih]
theorem Rect.colSize (h : Rect n r xs) {j : Nat} (hj : j < n) : szB n (hasC n r xs j) = r := by
  have e1 : szB n (hasC n r xs j) = sumTo (fun c => sumTo (fun i => if (qat n xs i j == (c : Int)) then 1 else 0) r) n := by
    refine sumTo_congr n fun c _ => ?_
    exact (sum_unique (P := fun i => qat n xs i j == (c : Int)) r fun i k hi hk a b => by
      have a' : qat n xs i j = (c : Int) := by simpa using a
      have b' : qat n xs k j = (c : Int) := by simpa using b
      exact h.col_inj hj hi hk (by rw [a', b'])).symm
  rw [e1, sumTo_swap]
  rw [sumTo_congr (g := fun _ => 1) r, sumTo_ones]
  intro i hi
  have hc := h.cell hi hj
  obtain ⟨x, hx⟩ : ∃ x : Nat, qat n xs i j = x := Int.eq_ofNat_of_zero_le hc.1
  have := sumTo_delta x 1 n
  rw [if_pos (by omega)] at this
  refine Eq.trans (sumTo_congr n fun c _ => ?_) this
  rw [hx]
  by_cases e : x = c
  · subst e; simp
  · rw [if_neg e, if_neg]; simp; omega
theorem Rect.numSize (h : Rect n r xs) {c : Nat} (hc : c < n) : szB n (fun j => hasC n r xs j c) = r := by
  have e1 : szB n (fun j => hasC n r xs j c) = sumTo (fun j => sumTo (fun i => if (qat n xs i j == (c : Int)) then 1 else 0) r) n := by
    refine sumTo_congr n fun j hj => ?_
    exact (sum_unique (P := fun i => qat n xs i j == (c : Int)) r fun i k hi hk a b => by
      have a' : qat n xs i j = (c : Int) := by simpa using a
      have b' : qat n xs k j = (c : Int) := by simpa using b
      exact h.col_inj hj hi hk (by rw [a', b'])).symm
  rw [e1, sumTo_swap]
  rw [sumTo_congr (g := fun _ => 1) r, sumTo_ones]
  intro i hi
  rw [sum_unique (P := fun j => qat n xs i j == (c : Int)) n fun j k hj hk a b => by
      have a' : qat n xs i j = (c : Int) := by simpa using a
      have b' : qat n xs i k = (c : Int) := by simpa using b
      exact h.row_inj hi hj hk (by rw [a', b'])]
  obtain ⟨j, hj, e⟩ := h.row_has hi (b := (c : Int)) (by omega)
  rw [anyTo_iff.2 ⟨j, hj, by simp [e]⟩]; rfl
theorem Rect.hall (h : Rect n r xs) (hr : r < n) : ∃ f : Nat → Nat, (∀ j, j < n → f j < n ∧ hasC n r xs j (f j) = false) ∧ ∀ i j, i < n → j < n → f i = f j → i = j := by
  have hc : HallC n n (fun j c => !hasC n r xs j c) := hall_regular (d := n - r) (by omega)
    (fun j hj => by have := szB_not n (hasC n r xs j); rw [h.colSize hj] at this; show szB n (fun c => !hasC n r xs j c) = _; omega)
    (fun c hc => by have := szB_not n (fun j => hasC n r xs j c); rw [h.numSize hc] at this; show szB n (fun j => !hasC n r xs j c) = _; omega)
  obtain ⟨f, h1, h2⟩ := Go.Proofs.Ytkmfhnjadpdkeaa.hall _ _ (Nat.le_refl _) hc
  exact ⟨f, fun j hj => ⟨(h1 j hj).1, by simpa using (h1 j hj).2⟩, h2⟩
theorem ix_right {xs ys : List Int} {i : Nat} : ix (xs ++ ys) (xs.length + i) = ix ys i := by
  unfold ix; rw [List.getD_eq_getElem?_getD, List.getD_eq_getElem?_getD, List.getElem?_append_right (by omega), Nat.add_sub_cancel_left]
theorem Rect.next (h : Rect n r xs) (hr : r < n) : (goOn n n xs).isSome = true := by
  obtain ⟨f, h1, h2⟩ := h.hall hr
  have hn : 0 < n := by omega
  let zs : List Int := (List.range n).map fun j => ((f j : Nat) : Int)
  have hl : zs.length = n := by simp [zs]
  have hz : ∀ j, j < n → ix zs j = ((f j : Nat) : Int) := fun j hj => by simp [zs, ix, hj]
  refine goOn_isSome (zs := zs) hl (fun x hx => ?_) (onceB_iff.2 fun i k hi hk => ?_)
  · obtain ⟨j, hj, rfl⟩ := List.mem_map.1 hx
    have := (h1 j (List.mem_range.1 hj)).1
    omega
  · cases e : clash n (xs ++ zs) i k
    · rfl
    · exfalso
      rw [List.length_append, hl, h.len] at hi
      by_cases hix : i < xs.length
      · rw [clash_append hix (by omega), onceB_iff.1 h.one i k hix hk] at e; cases e
      · obtain ⟨a, b⟩ := clash_iff.1 e
        obtain ⟨j, rfl⟩ : ∃ j, i = xs.length + j := ⟨i - xs.length, by omega⟩
        have hj : j < n := by have := h.len; omega
        rw [ix_right, hz j hj] at a
        rw [h.len, place_div hj, place_mod hj] at b
        by_cases hkx : k < xs.length
        · have hq : k = dv k n * n + md k n := by unfold dv md; rw [Nat.mul_comm]; exact (Nat.div_add_mod k n).symm
          have hm : md k n < n := Nat.mod_lt _ hn
          have hd : dv k n < r := by unfold dv; rw [h.len] at hkx; exact (Nat.div_lt_iff_lt_mul hn).2 hkx
          rw [ix_append hkx] at a
          rcases b with b | b
          · omega
          · have h3 := (h1 j hj).2
            have h4 : hasC n r xs j (f j) = true := anyTo_iff.2 ⟨dv k n, hd, by
              rw [beq_iff_eq]
              unfold qat
              rw [show dv k n * n + j = k by omega, a]⟩
            rw [h4] at h3; cases h3
        · obtain ⟨q, rfl⟩ : ∃ q, k = xs.length + q := ⟨k - xs.length, by omega⟩
          have hq : q < n := by omega
          rw [ix_right, hz q hq] at a
          have := h2 j q hj hq (by omega)
          omega
theorem Rect.more (h : Rect n r xs) {ys : List Int} (hg : goOn n n xs = some ys) : Rect n (r + 1) ys := by
  obtain ⟨zs, h1, h2, h3, h4⟩ := goOn_spec hg h.one
  refine ⟨by rw [h1, List.length_append, h2, h.len, Nat.add_mul, Nat.one_mul], fun x hx => ?_, h4⟩
  rw [h1] at hx
  rcases List.mem_append.1 hx with hx | hx
  · exact h.rng x hx
  · exact h3 x hx
theorem Rect.whole : ∀ (k : Nat) {r : Nat} {xs : List Int}, Rect n r xs → r + k = n → (goOn n (k * n) xs).isSome = true
  | 0, _, _, _, _ => by rw [Nat.zero_mul]; rfl
  | k + 1, r, xs, h, hk => by
    have e : (k + 1) * n = n + k * n := by rw [Nat.add_mul]; omega
    rw [e, goOn_split h.one]
    · have h1 := h.next (by omega)
      cases e2 : goOn n n xs with
      | none => rw [e2] at h1; cases h1
      | some ys => exact Rect.whole k (h.more e2) (by omega)
    · intro zs h1 h2 h3
      refine Rect.whole k (r := r + 1) ⟨by rw [List.length_append, h1, h.len, Nat.add_mul, Nat.one_mul], fun x hx => ?_, h3⟩ (by omega)
      rcases List.mem_append.1 hx with hx | hx
      · exact h.rng x hx
      · exact h2 x hx
/-- Row by row, or cell by cell. -/
theorem Rect.step (h : Rect n r xs) {k : Nat} (hk : r + (k + 1) = n) : ∃ ys, goOn n n xs = some ys ∧ Rect n (r + 1) ys ∧ goOn n ((k + 1) * n) xs = goOn n (k * n) ys := by
  have h1 := h.next (by omega)
  cases e2 : goOn n n xs with
  | none => rw [e2] at h1; cases h1
  | some ys =>
    refine ⟨ys, rfl, h.more e2, ?_⟩
    have e : (k + 1) * n = n + k * n := by rw [Nat.add_mul]; omega
    rw [e, goOn_split h.one, e2]
    · rfl
    · intro zs h1 h2 h3
      refine Rect.whole k (r := r + 1) ⟨by rw [List.length_append, h1, h.len, Nat.add_mul, Nat.one_mul], fun x hx => ?_, h3⟩ (by omega)
      rcases List.mem_append.1 hx with hx | hx
      · exact h.rng x hx
      · exact h2 x hx
theorem Rect.latin (h : Rect n n xs) (h1 : 1 ≤ n) (h8 : n ≤ 8) : latinFault n xs = 0 := by
  refine (IsLatin.fault ⟨by omega, by omega, by rw [h.len]; simp, fun k hk => h.rng _ (ix_mem hk), ?_⟩)
  rw [Int.toNat_natCast]; exact h.one
end
end Go.Proofs.Ytkmfhnjadpdkeaa
