/-
  Plain words: the sets of as many points, in order; as lists, as bits; in how many blocks each lies. No program in sight. No condition.
-/
import Derived.Test.YtnmgambilpoeiaaDSets
import Derived.Test.YtnmgambilpoeiaaSumL
namespace Go.Proofs.Ytnmgambilpoeiaa
open Go.RowKit

/-- The rising lists of as many numbers from a on, below n, in order. -/
def subsL (n : Nat) : Nat → Nat → List (List Nat)
  | 0, _ => [[]]
  | l + 1, a => (List.range (n - l - a)).flatMap fun i => (subsL n l (a + i + 1)).map ((a + i) :: ·)
/-- The first k parts of them. -/
def partL (n l a k : Nat) : List (List Nat) := (List.range k).flatMap fun i => (subsL n l (a + i + 1)).map ((a + i) :: ·)
theorem subsL_part (n l a : Nat) : subsL n (l + 1) a = partL n l a (n - l - a) := rfl
theorem partL_zero (n l a : Nat) : partL n l a 0 = [] := rfl
theorem partL_succ (n l a k : Nat) : partL n l a (k + 1) = partL n l a k ++ (subsL n l (a + k + 1)).map ((a + k) :: ·) := by
  unfold partL; rw [List.range_succ, List.flatMap_append]; simp
/-- Is a list rising, from a on, below n? -/
def RiseL (n : Nat) : Nat → List Nat → Prop
  | _, [] => True
  | a, x :: P => a ≤ x ∧ x < n ∧ RiseL n (x + 1) P
theorem riseL_mono {n : Nat} : ∀ {P : List Nat} {a b : Nat}, a ≤ b → RiseL n b P → RiseL n a P
  | [], _, _, _, _ => trivial
  | x :: P, a, b, h, ⟨h1, h2, h3⟩ => ⟨by omega, h2, h3⟩
theorem riseL_fit {n : Nat} : ∀ {P : List Nat} {a : Nat}, RiseL n a P → P ≠ [] → a + P.length ≤ n
  | [x], a, ⟨h1, h2, h3⟩, _ => by simp only [List.length_singleton]; omega
  | x :: y :: P, a, ⟨h1, h2, h3⟩, _ => by
    have := riseL_fit (P := y :: P) (a := x + 1) h3 (by simp)
    simp only [List.length_cons] at this ⊢
    omega
theorem mem_subsL {n : Nat} : ∀ {l a : Nat} {P : List Nat}, P ∈ subsL n l a ↔ P.length = l ∧ RiseL n a P
  | 0, a, P => by
    simp only [subsL, List.mem_singleton]
    constructor
    · rintro rfl; exact ⟨rfl, trivial⟩
    · rintro ⟨h, _⟩; exact List.eq_nil_of_length_eq_zero h
  | l + 1, a, P => by
    rw [subsL, List.mem_flatMap]
    constructor
    · rintro ⟨i, hi, h⟩
      rw [List.mem_range] at hi
      obtain ⟨Q, hQ, rfl⟩ := List.mem_map.1 h
      obtain ⟨h1, h2⟩ := mem_subsL.1 hQ
      exact ⟨by simp [h1], by omega, by omega, h2⟩
    · rintro ⟨h1, h2⟩
      match P, h1, h2 with
      | x :: P, h1, ⟨h2, h3, h4⟩ =>
        simp only [List.length_cons, Nat.add_right_cancel_iff] at h1
        refine ⟨x - a, ?_, ?_⟩
        · rw [List.mem_range]
          by_cases e : P = []
          · subst e; simp only [List.length_nil] at h1; subst h1; omega
          · have := riseL_fit h4 e; omega
        · rw [show a + (x - a) = x by omega]
          exact List.mem_map.2 ⟨P, mem_subsL.2 ⟨h1, h4⟩, rfl⟩
theorem subsL_ne {n l a : Nat} (h : a + l ≤ n) : subsL n l a ≠ [] := by
  have : List.range' a l ∈ subsL n l a := by
    rw [mem_subsL]
    refine ⟨by simp, ?_⟩
    induction l generalizing a with
    | zero => trivial
    | succ l ih => rw [List.range'_succ]; exact ⟨Nat.le_refl _, by omega, ih (by omega)⟩
  intro e; rw [e] at this; cases this

/-- The bits of a list. -/
def maskL (s : Nat) (P : List Nat) : Nat := P.foldl sb s
theorem maskL_lt {m : Nat} : ∀ {P : List Nat} {s : Nat}, s < 2 ^ m → (∀ x ∈ P, x < m) → maskL s P < 2 ^ m
  | [], s, h, _ => h
  | x :: P, s, h, h2 => maskL_lt (P := P) (s := sb s x) (sb_lt h (h2 x (by simp))) fun y hy => h2 y (by simp [hy])
theorem tb_maskL : ∀ {P : List Nat} {s j : Nat}, tb (maskL s P) j = (tb s j || P.contains j)
  | [], s, j => by simp [maskL]
  | x :: P, s, j => by
    show tb (maskL (sb s x) P) j = _
    rw [tb_maskL, tb_sb, List.contains_cons]
    rw [show (x == j) = (j == x) from BEq.comm]
    cases tb s j <;> cases (j == x) <;> rfl
/-- As bits. -/
def subsM (n l a s : Nat) : List Nat := (subsL n l a).map (maskL s)
def partM (n l a s k : Nat) : List Nat := (partL n l a k).map (maskL s)
theorem subsM_zero (n a s : Nat) : subsM n 0 a s = [s] := rfl
theorem subsM_part (n l a s : Nat) : subsM n (l + 1) a s = partM n l a s (n - l - a) := rfl
theorem partM_zero (n l a s : Nat) : partM n l a s 0 = [] := rfl
theorem partM_succ (n l a s k : Nat) : partM n l a s (k + 1) = partM n l a s k ++ subsM n l (a + k + 1) (sb s (a + k)) := by
  unfold partM subsM; rw [partL_succ, List.map_append, List.map_map]; rfl

theorem and_eq_iff {b s : Nat} : b &&& s = s ↔ ∀ j, tb s j = true → tb b j = true := by
  unfold tb
  constructor
  · intro h j hj
    have : (b &&& s).testBit j = s.testBit j := by rw [h]
    rw [Nat.testBit_and, hj] at this; simpa using this
  · intro h
    apply Nat.eq_of_testBit_eq
    intro j
    rw [Nat.testBit_and]
    cases e : s.testBit j
    · simp
    · rw [h j e]; rfl
/-- Does block i have all of P? In how many blocks is P? -/
def holdP (xss : List (List Int)) (P : List Nat) (i : Nat) : Bool := P.all fun x => mem (rx xss i) (x : Int)
def lamP (xss : List (List Int)) (P : List Nat) : Nat := cnt (holdP xss P) xss.length
/-- The same of sets. -/
def hasM (xss : List (List Int)) (s i : Nat) : Bool := setOf (rx xss i) &&& s == s
def lamM (xss : List (List Int)) (s : Nat) : Nat := cnt (hasM xss s) xss.length
theorem hasM_mask {n : Nat} {xss : List (List Int)} (h : IsDes n xss) (P : List Nat) {i : Nat} (hi : i < xss.length) : hasM xss (maskL 0 P) i = holdP xss P i := by
  unfold hasM holdP
  rw [Bool.eq_iff_iff, beq_iff_eq, and_eq_iff, List.all_eq_true]
  constructor
  · intro g x hx
    have := g x (by rw [tb_maskL]; simp [hx])
    rwa [tb_setOf (h.all i hi)] at this
  · intro g j hj
    rw [tb_maskL] at hj
    rw [tb_setOf (h.all i hi)]
    exact g j (by simpa [tb] using hj)
theorem lamM_mask {n : Nat} {xss : List (List Int)} (h : IsDes n xss) (P : List Nat) : lamM xss (maskL 0 P) = lamP xss P := cnt_congr fun _ hi => hasM_mask h P hi

/-- Have all the same number? The first's number; -1: there is none. -/
def sameB {α : Type} (f : α → Nat) : List α → Bool
  | [] => true
  | a :: L => L.all fun x => f x == f a
def lamOf {α : Type} (f : α → Nat) : List α → Int
  | [] => -1
  | a :: _ => (f a : Int)
theorem sameB_map {α β : Type} (f : β → Nat) (g : α → β) (L : List α) : sameB f (L.map g) = sameB (fun x => f (g x)) L := by
  cases L with
  | nil => rfl
  | cons a L => simp [sameB, List.all_map, Function.comp_def]
theorem lamOf_map {α β : Type} (f : β → Nat) (g : α → β) (L : List α) : lamOf f (L.map g) = lamOf (fun x => f (g x)) L := by cases L <;> rfl
theorem lamOf_snoc {α : Type} {f : α → Nat} {L : List α} {x : α} (h : L = [] ∨ lamOf f L = (f x : Int)) : lamOf f (L ++ [x]) = (f x : Int) := by
  cases L with
  | nil => rfl
  | cons a L => rcases h with h | h; · cases h
                exact h
theorem sameB_snoc {α : Type} {f : α → Nat} {L : List α} {x : α} (h : sameB f L = true) (g : L = [] ∨ lamOf f L = (f x : Int)) : sameB f (L ++ [x]) = true := by
  cases L with
  | nil => rfl
  | cons a L =>
    rcases g with g | g
    · cases g
    · simp only [sameB, List.cons_append, List.all_append, Bool.and_eq_true] at h ⊢
      exact ⟨h, by simp only [lamOf] at g; simp; omega⟩
theorem sameB_iff {α : Type} {f : α → Nat} {L : List α} : sameB f L = true ↔ ∀ x ∈ L, ∀ y ∈ L, f x = f y := by
  cases L with
  | nil => simp [sameB]
  | cons a L =>
    simp only [sameB, List.all_eq_true, beq_iff_eq]
    constructor
    · intro h x hx y hy
      have e : ∀ z ∈ a :: L, f z = f a := fun z hz => by
        rcases List.mem_cons.1 hz with rfl | hz
        · rfl
        · exact h z hz
      rw [e x hx, e y hy]
    · intro h x hx; exact h x (by simp [hx]) a (by simp)
theorem sameB_not {α : Type} {f : α → Nat} {L : List α} {x y : α} (hx : x ∈ L) (hy : y ∈ L) (h : f x ≠ f y) : sameB f L = false := by
  cases e : sameB f L
  · rfl
  · exact absurd (sameB_iff.1 e x hx y hy) h
theorem lamOf_mem {α : Type} {f : α → Nat} {L : List α} {x : α} (h : sameB f L = true) (hx : x ∈ L) : lamOf f L = (f x : Int) := by
  cases L with
  | nil => cases hx
  | cons a L => show ((f a : Nat) : Int) = _; rw [sameB_iff.1 h a (by simp) x hx]
theorem lamOf_nonneg {α : Type} {f : α → Nat} {L : List α} (h : L ≠ []) : 0 ≤ lamOf f L := by
  cases L with
  | nil => exact absurd rfl h
  | cons a L => exact Int.natCast_nonneg _
/-- The sets' counts, once as lists, once as bits. -/
theorem same_mask {n : Nat} {xss : List (List Int)} (h : IsDes n xss) (t : Nat) : sameB (lamM xss) (subsM n t 0 0) = sameB (lamP xss) (subsL n t 0) := by
  unfold subsM; rw [sameB_map]; congr 1; funext P; exact lamM_mask h P
theorem lam_mask {n : Nat} {xss : List (List Int)} (h : IsDes n xss) (t : Nat) : lamOf (lamM xss) (subsM n t 0 0) = lamOf (lamP xss) (subsL n t 0) := by
  unfold subsM; rw [lamOf_map]; congr 1; funext P; exact lamM_mask h P

/-- Have all blocks the same size? -/
def uniB (xss : List (List Int)) : Bool := xss.all fun b => decide (b.length = (rx xss 0).length)
/-- What Level tells: whether, and then the size and the number. -/
def levE (n : Int) (xss : List (List Int)) (t : Int) : Int :=
  if desFault n xss ≠ 0 then desFault n xss else if t < 0 ∨ 4 < t ∨ n < t then 1 else if xss.length = 0 then 4 else if uniB xss = false then 4
  else if sameB (lamP xss) (subsL n.toNat t.toNat 0) = false then 4 else 0
def levK (n : Int) (xss : List (List Int)) (t : Int) : Int := if levE n xss t = 0 then ((rx xss 0).length : Int) else 0
def levL (n : Int) (xss : List (List Int)) (t : Int) : Int := if levE n xss t = 0 then lamOf (lamP xss) (subsL n.toNat t.toNat 0) else 0
end Go.Proofs.Ytnmgambilpoeiaa
