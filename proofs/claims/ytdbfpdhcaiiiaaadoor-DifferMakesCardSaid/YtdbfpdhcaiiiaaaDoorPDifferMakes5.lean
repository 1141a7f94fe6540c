/-
  Bits of small ints: the walk's and, or, shifts in Lean's own words. No condition.
  Contract: design.sets: the blocks as sets of bits. No condition.
  Plain words: the sets of as many points, in order; as lists, as bits; in how many blocks each lies. No program in sight. No condition.
  Plain laws: what a level is; counting downwards. No program in sight. No condition.
  Plain laws: sums over a set, made a prime number of times, are the sum over the set times the prime, modulo the prime. No program in sight. No condition.
-/
import Derived.Test.YtdbfpdhcaiiiaaaDoorPDifferMakes1
import Derived.Laws.BitsAllLaws
import Derived.Test.YtdbfpdhcaiiiaaaDoorPDifferMakes3
import Derived.Test.YtdbfpdhcaiiiaaaDoorPDifferMakes2
namespace Go.Proofs.YtdbfpdhcaiiiaaaDoor
open Go.RowKit

theorem ofInt_i64 (a : Nat) (ha : a < 9223372036854775808) : (BitVec.ofInt 64 (a : Int)).toNat = a := by
  rw [BitVec.ofInt_natCast, BitVec.toNat_ofNat]; exact Nat.mod_eq_of_lt (by omega)
theorem i64_and_nat (a b : Nat) (ha : a < 9223372036854775808) (hb : b < 9223372036854775808) : bits .and .i64 (a : Int) (b : Int) = ((a &&& b : Nat) : Int) := by
  have hx : a &&& b < 2 ^ 63 := Nat.and_lt_two_pow _ (by omega)
  show IntKind.i64.wrap ((BitVec.ofInt 64 (a : Int) &&& BitVec.ofInt 64 (b : Int)).toNat : Int) = _
  rw [BitVec.toNat_and, ofInt_i64 a ha, ofInt_i64 b hb]
  generalize a &&& b = q at *

  exact IntWalk.i64_in _ (by omega)
theorem i64_or_nat (a b : Nat) (ha : a < 9223372036854775808) (hb : b < 9223372036854775808) : bits .or .i64 (a : Int) (b : Int) = ((a ||| b : Nat) : Int) := by
  have hx : a ||| b < 2 ^ 63 := Nat.or_lt_two_pow (by omega) (by omega)
  show IntKind.i64.wrap ((BitVec.ofInt 64 (a : Int) ||| BitVec.ofInt 64 (b : Int)).toNat : Int) = _
  rw [BitVec.toNat_or, ofInt_i64 a ha, ofInt_i64 b hb]
  generalize a ||| b = q at *

  exact IntWalk.i64_in _ (by omega)

/-- Is bit j set? -/
def tb (c j : Nat) : Bool := c.testBit j
/-- Set bit j. -/
def sb (c j : Nat) : Nat := c ||| 2 ^ j
theorem shr_and (c j : Nat) (hc : c < 9223372036854775808) : bits .and .i64 ((c : Int) / 2 ^ j) 1 = if tb c j then 1 else 0 := by
  have h1 : ((c : Int) / 2 ^ j) = ((c / 2 ^ j : Nat) : Int) := by rw [Int.natCast_ediv, Int.natCast_pow]; rfl
  have h2 : c / 2 ^ j ≤ c := Nat.div_le_self _ _
  rw [h1, show (1 : Int) = ((1 : Nat) : Int) from rfl, i64_and_nat _ _ (by omega) (by omega), Nat.and_one_is_mod]
  unfold tb
  rw [Nat.testBit_eq_decide_div_mod_eq]
  have := Nat.mod_two_eq_zero_or_one (c / 2 ^ j)
  rcases this with e | e <;> simp [e]
theorem shr_and_zero (c j : Nat) (hc : c < 9223372036854775808) : (bits .and .i64 ((c : Int) / 2 ^ j) 1 == 0) = !tb c j := by
  rw [shr_and c j hc]; cases tb c j <;> rfl
theorem tb_sb (c j k : Nat) : tb (sb c j) k = (tb c k || j == k) := by
  unfold tb sb
  rw [Nat.testBit_or, Nat.testBit_two_pow]
  congr 1
theorem sb_lt {c j m : Nat} (hc : c < 2 ^ m) (hj : j < m) : sb c j < 2 ^ m := Nat.or_lt_two_pow hc (Nat.pow_lt_pow_right (by omega) hj)
theorem or_shl (c j : Nat) (hc : c < 9223372036854775808) (hj : j < 63) : bits .or .i64 (c : Int) ((2 : Int) ^ j) = ((sb c j : Nat) : Int) := by
  have h1 : ((2 : Int) ^ j) = ((2 ^ j : Nat) : Int) := by rw [Int.natCast_pow]; rfl
  have h2 : 2 ^ j < 2 ^ 63 := Nat.pow_lt_pow_right (by omega) hj
  rw [h1, i64_or_nat _ _ hc (by omega)]; rfl

/-- One, shifted. -/
def sh1 (j : Nat) : Nat := 2 ^ j
theorem shl_val {j : Nat} (hj : j < 60) : Value.int .i64 (wrap64 ((2 : Int) ^ j)) = Value.int .i64 ((sh1 j : Nat) : Int) := by
  have h2 : 2 ^ j < 2 ^ 60 := Nat.pow_lt_pow_right (by omega) hj
  have h1 : ((2 : Int) ^ j) = ((2 ^ j : Nat) : Int) := by rw [Int.natCast_pow]; rfl
  rw [h1]; unfold sh1
  generalize 2 ^ j = q at *
  rw [IntWalk.wrap64_in _ ⟨by omega, by omega⟩]
theorem or_val {c j : Nat} (hc : c < 9223372036854775808) (hj : j < 60) : Value.int .i64 (bits .or .i64 (c : Int) ((sh1 j : Nat) : Int)) = Value.int .i64 ((sb c j : Nat) : Int) := by
  have h2 : 2 ^ j < 2 ^ 60 := Nat.pow_lt_pow_right (by omega) hj
  unfold sh1
  rw [i64_or_nat _ _ hc (by omega)]; rfl

theorem or_raw {c j : Nat} (hc : c < 9223372036854775808) (hj : j < 60) : Value.int .i64 (bits .or .i64 (c : Int) (wrap64 ((2 : Int) ^ j))) = Value.int .i64 ((sb c j : Nat) : Int) := by
  have h := shl_val hj
  injection h with _ h
  rw [h]; exact or_val hc hj

end Go.Proofs.YtdbfpdhcaiiiaaaDoor

namespace Go.Proofs.YtdbfpdhcaiiiaaaDoor
open Go.RowKit

/-- The bits of the first numbers of a block. -/
def bitsOf (b : List Int) : Nat → Nat
  | 0 => 0
  | j + 1 => sb (bitsOf b j) (ix b j).toNat
def setOf (b : List Int) : Nat := bitsOf b b.length
theorem bitsOf_lt {n : Nat} {b : List Int} (h : ∀ k, k < b.length → 0 ≤ ix b k ∧ ix b k < (n : Int)) : ∀ {j : Nat}, j ≤ b.length → bitsOf b j < 2 ^ n
  | 0, _ => by show 0 < _; exact Nat.two_pow_pos n
  | j + 1, hj => by
    have := h j (by omega)
    exact sb_lt (bitsOf_lt h (by omega)) (by omega)
theorem tb_bitsOf {n : Nat} {b : List Int} (h : ∀ k, k < b.length → 0 ≤ ix b k ∧ ix b k < (n : Int)) (x : Nat) : ∀ {j : Nat}, j ≤ b.length → (tb (bitsOf b j) x = true ↔ ∃ i, i < j ∧ ix b i = (x : Int))
  | 0, _ => by simp [bitsOf, tb]
  | j + 1, hj => by
    have hb := h j (by omega)
    rw [bitsOf, tb_sb, Bool.or_eq_true, tb_bitsOf h x (by omega), beq_iff_eq]
    constructor
    · rintro (⟨i, h1, h2⟩ | e)
      · exact ⟨i, by omega, h2⟩
      · exact ⟨j, by omega, by omega⟩
    · rintro ⟨i, h1, h2⟩
      by_cases e : i = j
      · subst e; exact .inr (by omega)
      · exact .inl ⟨i, by omega, h2⟩
theorem tb_setOf {n : Nat} {b : List Int} (h : IsBlock n b) (x : Nat) : tb (setOf b) x = mem b x := by
  have h1 := tb_bitsOf h.rng x (Nat.le_refl _)
  rw [Bool.eq_iff_iff]
  unfold setOf
  rw [h1, mem_iff]
  constructor
  · rintro ⟨i, hi, e⟩; rw [← e]; exact ix_mem hi
  · intro hx; obtain ⟨i, hi, e⟩ := ix_of_mem hx; exact ⟨i, hi, e⟩
theorem setOf_lt {n : Nat} {b : List Int} (h : IsBlock n b) : setOf b < 2 ^ n := bitsOf_lt h.rng (Nat.le_refl _)

theorem or_u64 {c j : Nat} (hc : c < 18446744073709551616) (hj : j < 60) : Value.int .u64 (bits .or .u64 (c : Int) (IntKind.u64.wrap ((2 : Int) ^ j))) = Value.int .u64 ((sb c j : Nat) : Int) := by
  have h2 : 2 ^ j < 2 ^ 60 := Nat.pow_lt_pow_right (by omega) hj
  have h1 : ((2 : Int) ^ j) = ((2 ^ j : Nat) : Int) := by rw [Int.natCast_pow]; rfl
  rw [h1]
  unfold sb
  generalize 2 ^ j = q at *
  rw [show IntKind.u64.wrap ((q : Nat) : Int) = ((q : Nat) : Int) by rw [IntKind.wrap_u64]; omega, u64_or_nat _ _ hc (by omega)]

/-- A row of the call's own that holds sets. -/
def cellsU (ss : List Nat) : List Value := ss.map (fun s => Value.int .u64 (s : Nat))
def setsTo (xss : List (List Int)) : Nat → List Nat
  | 0 => []
  | k + 1 => setsTo xss k ++ [setOf (rx xss k)]
theorem setsTo_len (xss : List (List Int)) : ∀ k, (setsTo xss k).length = k
  | 0 => rfl
  | k + 1 => by rw [setsTo, List.length_append, setsTo_len xss k]; rfl
theorem setsTo_get (xss : List (List Int)) {i : Nat} : ∀ {k : Nat}, i < k → (setsTo xss k).getD i 0 = setOf (rx xss i)
  | 0, h => by omega
  | k + 1, h => by
    rw [setsTo]
    by_cases e : i < k
    · rw [List.getD_eq_getElem?_getD, List.getElem?_append_left (by rw [setsTo_len]; exact e), ← List.getD_eq_getElem?_getD]; exact setsTo_get xss e
    · rw [show i = k by omega, List.getD_eq_getElem?_getD, List.getElem?_append_right (by rw [setsTo_len]; exact Nat.le_refl _), setsTo_len, Nat.sub_self]; rfl

end Go.Proofs.YtdbfpdhcaiiiaaaDoor

namespace Go.Proofs.YtdbfpdhcaiiiaaaDoor
open Go.RowKit

/-- The rising lists of as many numbers from a on, below n, in order. -/
def subsL (n : Nat) : Nat → Nat → List (List Nat)
  | 0, _ => [[]]
  | l + 1, a => (List.range (n - l - a)).flatMap fun i => (subsL n l (a + i + 1)).map ((a + i) :: ·)
/-- The first k parts of them. -/
def partL (n l a k : Nat) : List (List Nat) := (List.range k).flatMap fun i => (subsL n l (a + i + 1)).map ((a + i) :: ·)
theorem subsL_part (n l a : Nat) : subsL n (l + 1) a = partL n l a (n - l - a) := rfl
theorem partL_zero (n l a : Nat) : partL n l a 0 = [] := rfl
theorem partL_succ (n l a k : Nat) : partL n l a (k + 1) = partL n l a k ++ (subsL n l (a + k + 1)).map ((a + k) :: ·) := by
  unfold partL; rw [List.range_succ, List.flatMap_append]; simp
/-- Is a list rising, from a on, below n? -/
def RiseL (n : Nat) : Nat → List Nat → Prop
  | _, [] => True
  | a, x :: P => a ≤ x ∧ x < n ∧ RiseL n (x + 1) P
theorem riseL_mono {n : Nat} : ∀ {P : List Nat} {a b : Nat}, a ≤ b → RiseL n b P → RiseL n a P
  | [], _, _, _, _ => trivial
  | x :: P, a, b, h, ⟨h1, h2, h3⟩ => ⟨by omega, h2, h3⟩
theorem riseL_fit {n : Nat} : ∀ {P : List Nat} {a : Nat}, RiseL n a P → P ≠ [] → a + P.length ≤ n
  | [x], a, ⟨h1, h2, h3⟩, _ => by simp only [List.length_singleton]; omega
  | x :: y :: P, a, ⟨h1, h2, h3⟩, _ => by
    have := riseL_fit (P := y :: P) (a := x + 1) h3 (by simp)
    simp only [List.length_cons] at this ⊢
    omega
theorem mem_subsL {n : Nat} : ∀ {l a : Nat} {P : List Nat}, P ∈ subsL n l a ↔ P.length = l ∧ RiseL n a P
  | 0, a, P => by
    simp only [subsL, List.mem_singleton]
    constructor
    · rintro rfl; exact ⟨rfl, trivial⟩
    · rintro ⟨h, _⟩; exact List.eq_nil_of_length_eq_zero h
  | l + 1, a, P => by
    rw [subsL, List.mem_flatMap]
    constructor
    · rintro ⟨i, hi, h⟩
      rw [List.mem_range] at hi
      obtain ⟨Q, hQ, rfl⟩ := List.mem_map.1 h
      obtain ⟨h1, h2⟩ := mem_subsL.1 hQ
      exact ⟨by simp [h1], by omega, by omega, h2⟩
    · rintro ⟨h1, h2⟩
      match P, h1, h2 with
      | x :: P, h1, ⟨h2, h3, h4⟩ =>
        simp only [List.length_cons, Nat.add_right_cancel_iff] at h1
        refine ⟨x - a, ?_, ?_⟩
        · rw [List.mem_range]
          by_cases e : P = []
          · subst e; simp only [List.length_nil] at h1; subst h1; omega
          · have := riseL_fit h4 e; omega
        · rw [show a + (x - a) = x by omega]
          exact List.mem_map.2 ⟨P, mem_subsL.2 ⟨h1, h4⟩, rfl⟩
theorem subsL_ne {n l a : Nat} (h : a + l ≤ n) : subsL n l a ≠ [] := by
  have : List.range' a l ∈ subsL n l a := by
    rw [mem_subsL]
    refine ⟨by simp, ?_⟩
    induction l generalizing a with
    | zero => trivial
    | succ l ih => rw [List.range'_succ]; exact ⟨Nat.le_refl _, by omega, ih (by omega)⟩
  intro e; rw [e] at this; cases this

/-- The bits of a list. -/
def maskL (s : Nat) (P : List Nat) : Nat := P.foldl sb s
theorem maskL_lt {m : Nat} : ∀ {P : List Nat} {s : Nat}, s < 2 ^ m → (∀ x ∈ P, x < m) → maskL s P < 2 ^ m
  | [], s, h, _ => h
  | x :: P, s, h, h2 => maskL_lt (P := P) (s := sb s x) (sb_lt h (h2 x (by simp))) fun y hy => h2 y (by simp [hy])
theorem tb_maskL : ∀ {P : List Nat} {s j : Nat}, tb (maskL s P) j = (tb s j || P.contains j)
  | [], s, j => by simp [maskL]
  | x :: P, s, j => by
    show tb (maskL (sb s x) P) j = _
    rw [tb_maskL, tb_sb, List.contains_cons]
    rw [show (x == j) = (j == x) from BEq.comm]
    cases tb s j <;> cases (j == x) <;> rfl
/-- As bits. -/
def subsM (n l a s : Nat) : List Nat := (subsL n l a).map (maskL s)
def partM (n l a s k : Nat) : List Nat := (partL n l a k).map (maskL s)
theorem subsM_zero (n a s : Nat) : subsM n 0 a s = [s] := rfl
theorem subsM_part (n l a s : Nat) : subsM n (l + 1) a s = partM n l a s (n - l - a) := rfl
theorem partM_zero (n l a s : Nat) : partM n l a s 0 = [] := rfl
theorem partM_succ (n l a s k : Nat) : partM n l a s (k + 1) = partM n l a s k ++ subsM n l (a + k + 1) (sb s (a + k)) := by
  unfold partM subsM; rw [partL_succ, List.map_append, List.map_map]; rfl

theorem and_eq_iff {b s : Nat} : b &&& s = s ↔ ∀ j, tb s j = true → tb b j = true := by
  unfold tb
  constructor
  · intro h j hj
    have : (b &&& s).testBit j = s.testBit j := by rw [h]
    rw [Nat.testBit_and, hj] at this; simpa using this
  · intro h
    apply Nat.eq_of_testBit_eq
    intro j
    rw [Nat.testBit_and]
    cases e : s.testBit j
    · simp
    · rw [h j e]; rfl
/-- Does block i have all of P? In how many blocks is P? -/
def holdP (xss : List (List Int)) (P : List Nat) (i : Nat) : Bool := P.all fun x => mem (rx xss i) (x : Int)
def lamP (xss : List (List Int)) (P : List Nat) : Nat := cnt (holdP xss P) xss.length
/-- The same of sets. -/
def hasM (xss : List (List Int)) (s i : Nat) : Bool := setOf (rx xss i) &&& s == s
def lamM (xss : List (List Int)) (s : Nat) : Nat := cnt (hasM xss s) xss.length
theorem hasM_mask {n : Nat} {xss : List (List Int)} (h : IsDes n xss) (P : List Nat) {i : Nat} (hi : i < xss.length) : hasM xss (maskL 0 P) i = holdP xss P i := by
  unfold hasM holdP
  rw [Bool.eq_iff_iff, beq_iff_eq, and_eq_iff, List.all_eq_true]
  constructor
  · intro g x hx
    have := g x (by rw [tb_maskL]; simp [hx])
    rwa [tb_setOf (h.all i hi)] at this
  · intro g j hj
    rw [tb_maskL] at hj
    rw [tb_setOf (h.all i hi)]
    exact g j (by simpa [tb] using hj)
theorem lamM_mask {n : Nat} {xss : List (List Int)} (h : IsDes n xss) (P : List Nat) : lamM xss (maskL 0 P) = lamP xss P := cnt_congr fun _ hi => hasM_mask h P hi

/-- Have all the same number? The first's number; -1: there is none. -/
def sameB {α : Type} (f : α → Nat) : List α → Bool
  | [] => true
  | a :: L => L.all fun x => f x == f a
def lamOf {α : Type} (f : α → Nat) : List α → Int
  | [] => -1
  | a :: _ => (f a : Int)
theorem sameB_map {α β : Type} (f : β → Nat) (g : α → β) (L : List α) : sameB f (L.map g) = sameB (fun x => f (g x)) L := by
  cases L with
  | nil => rfl
  | cons a L => simp [sameB, List.all_map, Function.comp_def]
theorem lamOf_map {α β : Type} (f : β → Nat) (g : α → β) (L : List α) : lamOf f (L.map g) = lamOf (fun x => f (g x)) L := by cases L <;> rfl
theorem lamOf_snoc {α : Type} {f : α → Nat} {L : List α} {x : α} (h : L = [] ∨ lamOf f L = (f x : Int)) : lamOf f (L ++ [x]) = (f x : Int) := by
  cases L with
  | nil => rfl
  | cons a L => rcases h with h | h; · cases h
                exact h
theorem sameB_snoc {α : Type} {f : α → Nat} {L : List α} {x : α} (h : sameB f L = true) (g : L = [] ∨ lamOf f L = (f x : Int)) : sameB f (L ++ [x]) = true := by
  cases L with
  | nil => rfl
  | cons a L =>
    rcases g with g | g
    · cases g
    · simp only [sameB, List.cons_append, List.all_append, Bool.and_eq_true] at h ⊢
      exact ⟨h, by simp only [lamOf] at g; simp; omega⟩
theorem sameB_iff {α : Type} {f : α → Nat} {L : List α} : sameB f L = true ↔ ∀ x ∈ L, ∀ y ∈ L, f x = f y := by
  cases L with
  | nil => simp [sameB]
  | cons a L =>
    simp only [sameB, List.all_eq_true, beq_iff_eq]
    constructor
    · intro h x hx y hy
      have e : ∀ z ∈ a :: L, f z = f a := fun z hz => by
        rcases List.mem_cons.1 hz with rfl | hz
        · rfl
        · exact h z hz
      rw [e x hx, e y hy]
    · intro h x hx; exact h x (by simp [hx]) a (by simp)
theorem sameB_not {α : Type} {f : α → Nat} {L : List α} {x y : α} (hx : x ∈ L) (hy : y ∈ L) (h : f x ≠ f y) : sameB f L = false := by
  cases e : sameB f L
  · rfl
  · exact absurd (sameB_iff.1 e x hx y hy) h
theorem lamOf_mem {α : Type} {f : α → Nat} {L : List α} {x : α} (h : sameB f L = true) (hx : x ∈ L) : lamOf f L = (f x : Int) := by
  cases L with
  | nil => cases hx
  | cons a L => show ((f a : Nat) : Int) = _; rw [sameB_iff.1 h a (by simp) x hx]
theorem lamOf_nonneg {α : Type} {f : α → Nat} {L : List α} (h : L ≠ []) : 0 ≤ lamOf f L := by
  cases L with
  | nil => exact absurd rfl h
  | cons a L => exact Int.natCast_nonneg _
/-- The sets' counts, once as lists, once as bits. -/
theorem same_mask {n : Nat} {xss : List (List Int)} (h : IsDes n xss) (t : Nat) : sameB (lamM xss) (subsM n t 0 0) = sameB (lamP xss) (subsL n t 0) := by
  unfold subsM; rw [sameB_map]; congr 1; funext P; exact lamM_mask h P
theorem lam_mask {n : Nat} {xss : List (List Int)} (h : IsDes n xss) (t : Nat) : lamOf (lamM xss) (subsM n t 0 0) = lamOf (lamP xss) (subsL n t 0) := by
  unfold subsM; rw [lamOf_map]; congr 1; funext P; exact lamM_mask h P

/-- Have all blocks the same size? -/
def uniB (xss : List (List Int)) : Bool := xss.all fun b => decide (b.length = (rx xss 0).length)
/-- What Level tells: whether, and then the size and the number. -/
def levE (n : Int) (xss : List (List Int)) (t : Int) : Int :=
  if desFault n xss ≠ 0 then desFault n xss else if t < 0 ∨ 4 < t ∨ n < t then 1 else if xss.length = 0 then 4 else if uniB xss = false then 4
  else if sameB (lamP xss) (subsL n.toNat t.toNat 0) = false then 4 else 0
def levK (n : Int) (xss : List (List Int)) (t : Int) : Int := if levE n xss t = 0 then ((rx xss 0).length : Int) else 0
def levL (n : Int) (xss : List (List Int)) (t : Int) : Int := if levE n xss t = 0 then lamOf (lamP xss) (subsL n.toNat t.toNat 0) else 0
end Go.Proofs.YtdbfpdhcaiiiaaaDoor

namespace Go.Proofs.YtdbfpdhcaiiiaaaDoor
open Go.RowKit

/-- Each t points lie in l blocks. -/
def LevelAt (n : Nat) (xss : List (List Int)) (t l : Nat) : Prop := ∀ P : List Nat, P.Nodup → (∀ x ∈ P, x < n) → P.length = t → lamP xss P = l
theorem hasP_mem {xss : List (List Int)} {P Q : List Nat} (h : ∀ x, x ∈ P ↔ x ∈ Q) (i : Nat) : holdP xss P i = holdP xss Q i := by
  unfold holdP
  rw [Bool.eq_iff_iff, List.all_eq_true, List.all_eq_true]
  exact ⟨fun g x hx => g x ((h x).2 hx), fun g x hx => g x ((h x).1 hx)⟩
theorem lamP_mem {xss : List (List Int)} {P Q : List Nat} (h : ∀ x, x ∈ P ↔ x ∈ Q) : lamP xss P = lamP xss Q := cnt_congr fun i _ => hasP_mem h i
theorem riseL_ge {n : Nat} : ∀ {P : List Nat} {a : Nat}, RiseL n a P → ∀ x ∈ P, a ≤ x ∧ x < n
  | [], _, _, x, hx => by cases hx
  | y :: P, a, ⟨h1, h2, h3⟩, x, hx => by
    rcases List.mem_cons.1 hx with rfl | hx
    · exact ⟨h1, h2⟩
    · have := riseL_ge h3 x hx; omega
theorem riseL_nodup {n : Nat} : ∀ {P : List Nat} {a : Nat}, RiseL n a P → P.Nodup
  | [], _, _ => List.nodup_nil
  | y :: P, a, ⟨h1, h2, h3⟩ => List.nodup_cons.2 ⟨fun hy => by have := riseL_ge h3 y hy; omega, riseL_nodup h3⟩
def insN (x : Nat) : List Nat → List Nat
  | [] => [x]
  | y :: P => if x < y then x :: y :: P else y :: insN x P
theorem insN_spec {n x : Nat} (hx : x < n) : ∀ {P : List Nat} {a : Nat}, RiseL n a P → x ∉ P → a ≤ x → RiseL n a (insN x P) ∧ (insN x P).length = P.length + 1 ∧ ∀ y, y ∈ insN x P ↔ y = x ∨ y ∈ P
  | [], a, _, _, ha => ⟨⟨ha, hx, trivial⟩, rfl, fun y => by simp [insN]⟩
  | y :: P, a, ⟨h1, h2, h3⟩, hn, ha => by
    unfold insN
    simp only [List.mem_cons, not_or] at hn
    by_cases e : x < y
    · rw [if_pos e]; exact ⟨⟨ha, hx, by omega, h2, h3⟩, rfl, fun z => by simp⟩
    · rw [if_neg e]
      obtain ⟨g1, g2, g3⟩ := insN_spec hx h3 hn.2 (by omega)
      refine ⟨⟨h1, h2, g1⟩, by simp [g2], fun z => ?_⟩
      rw [List.mem_cons, g3, List.mem_cons]
      constructor
      · rintro (h | h | h)
        · exact .inr (.inl h)
        · exact .inl h
        · exact .inr (.inr h)
      · rintro (h | h | h)
        · exact .inr (.inl h)
        · exact .inl h
        · exact .inr (.inr h)
theorem sorted_of {n : Nat} : ∀ {P : List Nat}, P.Nodup → (∀ x ∈ P, x < n) → ∃ Q, RiseL n 0 Q ∧ Q.length = P.length ∧ ∀ y, y ∈ Q ↔ y ∈ P
  | [], _, _ => ⟨[], trivial, rfl, fun y => Iff.rfl⟩
  | x :: P, h, g => by
    rw [List.nodup_cons] at h
    obtain ⟨Q, h1, h2, h3⟩ := sorted_of h.2 fun y hy => g y (by simp [hy])
    obtain ⟨g1, g2, g3⟩ := insN_spec (g x (by simp)) h1 (fun hq => h.1 ((h3 x).1 hq)) (Nat.zero_le _)
    refine ⟨insN x Q, g1, by simp [g2, h2], fun y => ?_⟩
    rw [g3, h3]; simp
theorem same_level {n t : Nat} {xss : List (List Int)} (ht : t ≤ n) (h : sameB (lamP xss) (subsL n t 0) = true) : ∃ l : Nat, lamOf (lamP xss) (subsL n t 0) = (l : Int) ∧ LevelAt n xss t l := by
  obtain ⟨l, hl⟩ := Int.eq_ofNat_of_zero_le (lamOf_nonneg (f := lamP xss) (subsL_ne (n := n) (l := t) (a := 0) (by omega)))
  refine ⟨l, hl, fun P h1 h2 h3 => ?_⟩
  obtain ⟨Q, g1, g2, g3⟩ := sorted_of h1 h2
  have := lamOf_mem h (mem_subsL.2 ⟨by omega, g1⟩ : Q ∈ subsL n t 0)
  rw [lamP_mem g3] at this
  omega
theorem level_same {n t l : Nat} {xss : List (List Int)} (ht : t ≤ n) (h : LevelAt n xss t l) : sameB (lamP xss) (subsL n t 0) = true ∧ lamOf (lamP xss) (subsL n t 0) = (l : Int) := by
  have key : ∀ Q ∈ subsL n t 0, lamP xss Q = l := fun Q hQ => by
    obtain ⟨h1, h2⟩ := mem_subsL.1 hQ
    exact h Q (riseL_nodup h2) (fun x hx => (riseL_ge h2 x hx).2) h1
  have hs : sameB (lamP xss) (subsL n t 0) = true := sameB_iff.2 fun x hx y hy => by rw [key x hx, key y hy]
  refine ⟨hs, ?_⟩
  obtain ⟨Q, hQ⟩ := List.exists_mem_of_ne_nil _ (subsL_ne (n := n) (l := t) (a := 0) (by omega))
  rw [lamOf_mem hs hQ, key Q hQ]

/-- A design of a level. -/
structure Lev (n : Nat) (xss : List (List Int)) (t k l : Nat) : Prop where
  des : IsDes n xss
  t4 : t ≤ 4
  tn : t ≤ n
  ne : 0 < xss.length
  uni : ∀ i, i < xss.length → (rx xss i).length = k
  lev : LevelAt n xss t l
theorem lev_ok {n t : Int} {xss : List (List Int)} (h : levE n xss t = 0) : ∃ N T k l : Nat, n = N ∧ t = T ∧ levK n xss t = k ∧ levL n xss t = l ∧ Lev N xss T k l := by
  have h0 := h
  unfold levE at h
  by_cases h1 : desFault n xss ≠ 0
  · rw [if_pos h1] at h; exact absurd h h1
  · rw [if_neg h1] at h
    by_cases h2 : t < 0 ∨ 4 < t ∨ n < t
    · rw [if_pos h2] at h; cases h
    · rw [if_neg h2] at h
      by_cases h3 : xss.length = 0
      · rw [if_pos h3] at h; cases h
      · rw [if_neg h3] at h
        by_cases h4 : uniB xss = false
        · rw [if_pos h4] at h; cases h
        · rw [if_neg h4] at h
          by_cases h5 : sameB (lamP xss) (subsL n.toNat t.toNat 0) = false
          · rw [if_pos h5] at h; cases h
          · have hD := des_of (show desFault n xss = 0 by simpa using h1)
            have := hD.lo
            obtain ⟨N, rfl⟩ := Int.eq_ofNat_of_zero_le (show 0 ≤ n by omega)
            obtain ⟨T, rfl⟩ := Int.eq_ofNat_of_zero_le (show 0 ≤ t by omega)
            rw [Int.toNat_natCast, Int.toNat_natCast] at h5
            obtain ⟨l, hl, hA⟩ := same_level (show T ≤ N by omega) (show sameB (lamP xss) (subsL N T 0) = true by simpa using h5)
            refine ⟨N, T, (rx xss 0).length, l, rfl, rfl, by unfold levK; rw [if_pos h0], by unfold levL; rw [if_pos h0, Int.toNat_natCast, Int.toNat_natCast, hl], hD, by omega, by omega, by omega, fun i hi => ?_, hA⟩
            have h6 : uniB xss = true := by simpa using h4
            have := List.all_eq_true.1 h6 _ (rx_mem hi)
            simpa using this
theorem Lev.ok {n t k l : Nat} {xss : List (List Int)} (h : Lev n xss t k l) : levE n xss t = 0 ∧ levK n xss t = k ∧ levL n xss t = l := by
  have h1 := level_same h.tn h.lev
  have t4 := h.t4; have tn := h.tn; have hne := h.ne
  have hu : uniB xss = true := List.all_eq_true.2 fun b hb => by
    obtain ⟨i, hi, rfl⟩ := List.getElem_of_mem hb
    have e1 := h.uni i hi; have e2 := h.uni 0 hne
    rw [rx_lt hi] at e1
    simp [e1, e2]
  have h0 : levE n xss t = 0 := by
    unfold levE
    rw [if_neg (by rw [h.des.fault]; simp), if_neg (by omega), if_neg (by omega), if_neg (by rw [hu]; decide), Int.toNat_natCast, Int.toNat_natCast, if_neg (by rw [h1.1]; decide)]
  refine ⟨h0, by unfold levK; rw [if_pos h0, h.uni 0 hne], by unfold levL; rw [if_pos h0, Int.toNat_natCast, Int.toNat_natCast, h1.2]⟩

/-- Does block i have point y? -/
def ptB (xss : List (List Int)) (i y : Nat) : Bool := mem (rx xss i) (y : Int)
theorem pickL_cnt (p : Nat → Bool) : ∀ m, (pickL p m).length = cnt p m
  | 0 => rfl
  | m + 1 => by
    rw [cnt]
    cases e : p m
    · rw [pickL_no e, pickL_cnt p m]; rfl
    · rw [pickL_yes e, List.length_append, pickL_cnt p m]; rfl
theorem block_count {n : Nat} {b : List Int} (h : IsBlock n b) : sumL (List.range n) (fun y => ind (mem b (y : Int))) = b.length := by
  have e : b = pickL (fun j => mem b (j : Int)) n := rise_pick h.pair (fun x hx => h.mem_rng hx) fun j _ => mem_iff b j
  have e2 : b.length = cnt (fun j => mem b (j : Int)) n := by rw [← pickL_cnt, ← e]
  rw [e2, cnt_sum]
theorem lamP_sum (xss : List (List Int)) (P : List Nat) : ((lamP xss P : Nat) : Int) = sumL (List.range xss.length) (fun i => ind (holdP xss P i)) := cnt_sum _ _
theorem hasP_cons (xss : List (List Int)) (y : Nat) (P : List Nat) (i : Nat) : holdP xss (y :: P) i = (ptB xss i y && holdP xss P i) := rfl
/-- COUNTING DOWN: pairs of a further point and a block. -/
theorem lev_count {n k t : Nat} {xss : List (List Int)} (hD : IsDes n xss) (hu : ∀ i, i < xss.length → (rx xss i).length = k) {P : List Nat} (h1 : P.Nodup) (h2 : ∀ x ∈ P, x < n) (h3 : P.length = t) :
    sumL (List.range n) (fun y => ind (!P.contains y) * (lamP xss (y :: P) : Int)) = (lamP xss P : Int) * ((k : Int) - t) := by
  have e1 : sumL (List.range n) (fun y => ind (!P.contains y) * (lamP xss (y :: P) : Int)) = sumL (List.range n) (fun y => sumL (List.range xss.length) (fun i => ind (!P.contains y) * ind (holdP xss (y :: P) i))) :=
    sumL_congr fun y _ => by rw [lamP_sum, sumL_mul]
  rw [e1, sumL_swap]
  rw [lamP_sum, ← sumL_mulr]
  refine sumL_congr fun i hi => ?_
  rw [List.mem_range] at hi
  cases e : holdP xss P i
  · rw [ind_false, Int.zero_mul, ← sumL_zero (List.range n)]
    exact sumL_congr fun y _ => by rw [hasP_cons, e, Bool.and_false, ind_false, Int.mul_zero]
  · rw [ind_true, Int.one_mul]
    have e2 : ∀ y, ind (!P.contains y) * ind (holdP xss (y :: P) i) = ind (ptB xss i y) - ind (P.contains y) := by
      intro y
      rw [hasP_cons, e, Bool.and_true, ind_not]
      cases e3 : P.contains y
      · rw [ind_false]; omega
      · have : ptB xss i y = true := List.all_eq_true.1 e y (by simpa using e3)
        rw [this, ind_true]; omega
    rw [sumL_congr fun y _ => e2 y, sumL_sub, nodup_count h1 h2, h3]
    have := block_count (hD.all i hi)
    rw [hu i hi] at this
    have e4 : sumL (List.range n) (fun y => ind (ptB xss i y)) = (k : Int) := this
    rw [e4]
theorem lev_down {n k t l : Nat} {xss : List (List Int)} (hD : IsDes n xss) (hu : ∀ i, i < xss.length → (rx xss i).length = k) (hL : LevelAt n xss (t + 1) l) {P : List Nat} (h1 : P.Nodup) (h2 : ∀ x ∈ P, x < n) (h3 : P.length = t) :
    (lamP xss P : Int) * ((k : Int) - t) = (l : Int) * ((n : Int) - t) := by
  rw [← lev_count hD hu h1 h2 h3]
  have e : ∀ y ∈ List.range n, ind (!P.contains y) * (lamP xss (y :: P) : Int) = (1 - ind (P.contains y)) * (l : Int) := by
    intro y hy
    rw [List.mem_range] at hy
    rw [ind_not]
    cases e3 : P.contains y
    · rw [hL (y :: P) (List.nodup_cons.2 ⟨by simpa using e3, h1⟩) (fun x hx => (List.mem_cons.1 hx).elim (fun e => by rw [e]; exact hy) (h2 x)) (by simp [h3])]
    · rw [ind_true]; simp
  rw [sumL_congr e, sumL_mulr, sumL_sub, nodup_count h1 h2, h3, sumL_const, List.length_range, Int.one_mul, Int.mul_comm]
/-- What is of a level is of the next lower one. -/
theorem Lev.down {n k t l : Nat} {xss : List (List Int)} (h : Lev n xss (t + 1) k l) (hk : t < k) : ∃ m : Nat, Lev n xss t k m ∧ (m : Int) * ((k : Int) - t) = (l : Int) * ((n : Int) - t) := by
  have tn := h.tn; have t4 := h.t4
  have key : ∀ P : List Nat, P.Nodup → (∀ x ∈ P, x < n) → P.length = t → (lamP xss P : Int) * ((k : Int) - t) = (l : Int) * ((n : Int) - t) := fun P h1 h2 h3 => lev_down h.des h.uni h.lev h1 h2 h3
  have hP := mem_subsL.1 (show List.range' 0 t ∈ subsL n t 0 from by
    rw [mem_subsL]
    refine ⟨by simp, ?_⟩
    have : ∀ (s a : Nat), a + s ≤ n → RiseL n a (List.range' a s) := by
      intro s
      induction s with
      | zero => intro a _; trivial
      | succ s ih => intro a ha; rw [List.range'_succ]; exact ⟨Nat.le_refl _, by omega, ih (a + 1) (by omega)⟩
    exact this t 0 (by omega))
  have e0 := key _ (riseL_nodup hP.2) (fun x hx => (riseL_ge hP.2 x hx).2) hP.1
  refine ⟨lamP xss (List.range' 0 t), ⟨h.des, by omega, by omega, h.ne, h.uni, fun P h1 h2 h3 => ?_⟩, e0⟩
  have e1 := key P h1 h2 h3
  have : (lamP xss P : Int) * ((k : Int) - t) = (lamP xss (List.range' 0 t) : Int) * ((k : Int) - t) := by rw [e1, e0]
  have := Int.eq_of_mul_eq_mul_right (by omega) this
  omega
theorem lamP_nil (xss : List (List Int)) : lamP xss [] = xss.length := by
  unfold lamP
  have : ∀ m, cnt (holdP xss []) m = m := by
    intro m
    induction m with
    | zero => rfl
    | succ m ih => rw [cnt, ih]; rfl
  exact this _
theorem Lev.none {n k l : Nat} {xss : List (List Int)} (h : Lev n xss 0 k l) : l = xss.length := by
  rw [← lamP_nil xss]; exact (h.lev [] List.nodup_nil (fun x hx => by cases hx) rfl).symm
theorem Lev.kn {n t k l : Nat} {xss : List (List Int)} (h : Lev n xss t k l) : k ≤ n := by
  rw [← h.uni 0 h.ne]; exact (h.des.all 0 h.ne).len
theorem Lev.lb {n t k l : Nat} {xss : List (List Int)} (h : Lev n xss t k l) : l ≤ xss.length := by
  have hP := mem_subsL.1 (show List.range' 0 t ∈ subsL n t 0 from by
    rw [mem_subsL]
    refine ⟨by simp, ?_⟩
    have : ∀ (s a : Nat), a + s ≤ n → RiseL n a (List.range' a s) := by
      intro s
      induction s with
      | zero => intro a _; trivial
      | succ s ih => intro a ha; rw [List.range'_succ]; exact ⟨Nat.le_refl _, by omega, ih (a + 1) (by omega)⟩
    exact this t 0 (by have := h.tn; omega))
  rw [← h.lev _ (riseL_nodup hP.2) (fun x hx => (riseL_ge hP.2 x hx).2) hP.1]
  exact cnt_le _ _
end Go.Proofs.YtdbfpdhcaiiiaaaDoor

namespace Go.Proofs.YtdbfpdhcaiiiaaaDoor
open Go.RowKit

def pw (S : List Nat) : Nat → (Nat → Int) → Nat → Int
  | 0, F, x => F x
  | m + 1, F, x => sumL S (fun a => pw S m F (x + a))
theorem pw_inner (S : List Nat) (F : Nat → Int) : ∀ m x, pw S m (fun y => sumL S (fun a => F (y + a))) x = pw S (m + 1) F x
  | 0, x => rfl
  | m + 1, x => by
    rw [pw]
    show _ = sumL S (fun a => pw S (m + 1) F (x + a))
    exact sumL_congr fun a _ => pw_inner S F m (x + a)
def bs : Nat → (Nat → Nat → Int) → Int
  | 0, G => G 0 0
  | m + 1, G => bs m (fun i j => G i (j + 1)) + bs m (fun i j => G (i + 1) j)
theorem bs_congr : ∀ (m : Nat) {G H : Nat → Nat → Int}, (∀ i j, G i j = H i j) → bs m G = bs m H
  | 0, _, _, h => h 0 0
  | m + 1, G, H, h => by rw [bs, bs, bs_congr m (fun i j => h i (j + 1)), bs_congr m (fun i j => h (i + 1) j)]
theorem bs_zero : ∀ m, bs m (fun _ _ => 0) = 0
  | 0 => rfl
  | m + 1 => by rw [bs, bs_zero m]; rfl
theorem bs_add : ∀ (m : Nat) (G H : Nat → Nat → Int), bs m (fun i j => G i j + H i j) = bs m G + bs m H
  | 0, _, _ => rfl
  | m + 1, G, H => by
    have h1 := bs_add m (fun i j => G i (j + 1)) (fun i j => H i (j + 1))
    have h2 := bs_add m (fun i j => G (i + 1) j) (fun i j => H (i + 1) j)
    show bs m (fun i j => G i (j + 1) + H i (j + 1)) + bs m (fun i j => G (i + 1) j + H (i + 1) j) = (bs m (fun i j => G i (j + 1)) + bs m (fun i j => G (i + 1) j)) + (bs m (fun i j => H i (j + 1)) + bs m (fun i j => H (i + 1) j))
    rw [h1, h2]; omega
theorem bs_sum (m : Nat) (G : Nat → Nat → Nat → Int) : ∀ l : List Nat, sumL l (fun b => bs m (G b)) = bs m (fun i j => sumL l (fun b => G b i j))
  | [] => (bs_zero m).symm
  | a :: l => by
    show bs m (G a) + sumL l (fun b => bs m (G b)) = bs m (fun i j => G a i j + sumL l (fun b => G b i j))
    rw [bs_add, bs_sum m G l]
theorem pw_cons (a : Nat) (S : List Nat) (F : Nat → Int) : ∀ m x, pw (a :: S) m F x = bs m (fun i j => pw S i F (x + j * a))
  | 0, x => by simp [bs, pw]
  | m + 1, x => by
    show pw (a :: S) m F (x + a) + sumL S (fun b => pw (a :: S) m F (x + b)) = _
    rw [bs, pw_cons a S F m (x + a), sumL_congr (fun b _ => pw_cons a S F m (x + b)), bs_sum]
    congr 1
    · refine bs_congr m fun i j => ?_
      rw [show x + a + j * a = x + (j + 1) * a by rw [Nat.add_mul]; omega]
    · refine bs_congr m fun i j => ?_
      show _ = sumL S (fun b => pw S i F (x + j * a + b))
      exact sumL_congr fun b _ => by rw [show x + b + j * a = x + j * a + b by omega]
/-- Pascal's numbers. -/
def bc : Nat → Nat → Nat
  | _, 0 => 1
  | 0, _ + 1 => 0
  | m + 1, j + 1 => bc m j + bc m (j + 1)
theorem bc_zero (m : Nat) : bc m 0 = 1 := by cases m <;> rfl
theorem bc_over : ∀ m j, m < j → bc m j = 0
  | 0, 0, h => by omega
  | 0, j + 1, _ => rfl
  | m + 1, 0, h => by omega
  | m + 1, j + 1, h => by rw [bc, bc_over m j (by omega), bc_over m (j + 1) (by omega)]
theorem bc_self : ∀ m, bc m m = 1
  | 0 => rfl
  | m + 1 => by rw [bc, bc_self m, bc_over m (m + 1) (by omega)]
theorem bc_absorb : ∀ m j, (j + 1) * bc (m + 1) (j + 1) = (m + 1) * bc m j
  | 0, 0 => rfl
  | 0, j + 1 => by simp [bc]
  | m + 1, 0 => by
    have h := bc_absorb m 0
    rw [bc_zero] at h
    rw [show bc (m + 1 + 1) (0 + 1) = bc (m + 1) 0 + bc (m + 1) (0 + 1) from rfl, bc_zero]; omega
  | m + 1, j + 1 => by
    have h1 := bc_absorb m j
    have h2 := bc_absorb m (j + 1)
    have e : bc (m + 1) (j + 1) = bc m j + bc m (j + 1) := rfl
    rw [show bc (m + 1 + 1) (j + 1 + 1) = bc (m + 1) (j + 1) + bc (m + 1) (j + 1 + 1) from rfl, Nat.mul_add, h2, show (j + 1 + 1) * bc (m + 1) (j + 1) = (j + 1) * bc (m + 1) (j + 1) + bc (m + 1) (j + 1) by rw [Nat.add_mul (j + 1) 1]; omega, h1,
      show (m + 1 + 1) * bc (m + 1) (j + 1) = (m + 1) * bc (m + 1) (j + 1) + bc (m + 1) (j + 1) by rw [Nat.add_mul (m + 1) 1]; omega, e, Nat.mul_add]
    omega
theorem range_first (f : Nat → Int) (k : Nat) : sumL (List.range (k + 1)) f = f 0 + sumL (List.range k) (fun j => f (j + 1)) := by
  rw [List.range_succ_eq_map]
  show f 0 + sumL ((List.range k).map Nat.succ) f = _
  rw [sumL_map]
theorem bs_all : ∀ (m : Nat) (G : Nat → Nat → Int), bs m G = sumL (List.range (m + 1)) (fun j => (bc m j : Int) * G (m - j) j)
  | 0, G => by simp [bs, sumL, bc, List.range_succ]
  | m + 1, G => by
    rw [bs, bs_all m, bs_all m, range_first _ (m + 1)]
    have e1 : sumL (List.range (m + 1)) (fun j => ((bc (m + 1) (j + 1) : Nat) : Int) * G (m + 1 - (j + 1)) (j + 1)) = sumL (List.range (m + 1)) (fun j => (bc m j : Int) * G (m - j) (j + 1)) + sumL (List.range (m + 1)) (fun j => (bc m (j + 1) : Int) * G (m - j) (j + 1)) := by
      rw [← sumL_add]
      refine sumL_congr fun j _ => ?_
      rw [show m + 1 - (j + 1) = m - j by omega, show bc (m + 1) (j + 1) = bc m j + bc m (j + 1) from rfl, Int.natCast_add, Int.add_mul]
    have e2 : sumL (List.range (m + 1)) (fun j => (bc m j : Int) * G (m - j + 1) j) = (bc m 0 : Int) * G (m + 1) 0 + sumL (List.range (m + 1)) (fun j => (bc m (j + 1) : Int) * G (m - j) (j + 1)) := by
      have h := range_first (fun j => (bc m j : Int) * G (m + 1 - j) j) (m + 1)
      rw [range_succ_sum _ (m + 1), bc_over m (m + 1) (by omega)] at h
      have h2 : sumL (List.range (m + 1)) (fun j => (bc m j : Int) * G (m - j + 1) j) = sumL (List.range (m + 1)) (fun j => (bc m j : Int) * G (m + 1 - j) j) := sumL_congr fun j hj => by
        rw [List.mem_range] at hj
        rw [show m - j + 1 = m + 1 - j by omega]
      have h3 : sumL (List.range (m + 1)) (fun j => (bc m (j + 1) : Int) * G (m + 1 - (j + 1)) (j + 1)) = sumL (List.range (m + 1)) (fun j => (bc m (j + 1) : Int) * G (m - j) (j + 1)) := sumL_congr fun j _ => by
        rw [show m + 1 - (j + 1) = m - j by omega]
      rw [h2, ← h3]
      simp at h
      omega
    rw [e1, e2, bc_zero, bc_zero]
    show _ = _ * G (m + 1) 0 + _
    omega
theorem dvd_sumL {α : Type} {p : Int} {f : α → Int} : ∀ {l : List α}, (∀ x ∈ l, p ∣ f x) → p ∣ sumL l f
  | [], _ => Int.dvd_zero p
  | a :: l, h => Int.dvd_add (h a (by simp)) (dvd_sumL fun x hx => h x (by simp [hx]))
/-- A prime. -/
def Prm (p : Nat) : Prop := 2 ≤ p ∧ ∀ d, 2 ≤ d → d < p → ¬ d ∣ p
theorem Prm.coprime {p : Nat} (h : Prm p) {a : Nat} (ha : ¬ p ∣ a) : Nat.gcd p a = 1 := by
  have h1 := Nat.gcd_dvd_left p a
  have h2 := Nat.gcd_dvd_right p a
  have hp := h.1
  have h3 : Nat.gcd p a ≤ p := Nat.le_of_dvd (by omega) h1
  have h4 : 0 < Nat.gcd p a := Nat.pos_of_dvd_of_pos h1 (by omega)
  refine Classical.byContradiction fun hne => ?_
  by_cases e : Nat.gcd p a = p
  · rw [e] at h2; exact ha h2
  · exact h.2 _ (by omega) (by omega) h1
theorem bc_dvd {p j : Nat} (h : Prm p) (h1 : 1 ≤ j) (h2 : j < p) : p ∣ bc p j := by
  obtain ⟨q, rfl⟩ : ∃ q, p = q + 1 := ⟨p - 1, by omega⟩
  obtain ⟨i, rfl⟩ : ∃ i, j = i + 1 := ⟨j - 1, by omega⟩
  have e := bc_absorb q i
  have hd : q + 1 ∣ (i + 1) * bc (q + 1) (i + 1) := by rw [e]; exact Nat.dvd_mul_right _ _
  refine Nat.Coprime.dvd_of_dvd_mul_left ?_ hd
  exact h.coprime fun hc => by have := Nat.le_of_dvd (by omega) hc; omega
theorem bs_prime {p : Nat} (h : Prm p) (G : Nat → Nat → Int) : (p : Int) ∣ bs p G - (G p 0 + G 0 p) := by
  have hp := h.1
  obtain ⟨q, rfl⟩ : ∃ q, p = q + 1 := ⟨p - 1, by omega⟩
  rw [bs_all, range_first, range_succ_sum, bc_zero, bc_self]
  have : ((q + 1 : Nat) : Int) ∣ sumL (List.range q) (fun j => ((bc (q + 1) (j + 1) : Nat) : Int) * G (q + 1 - (j + 1)) (j + 1)) := dvd_sumL fun j hj => by
    rw [List.mem_range] at hj
    exact Int.dvd_trans (Int.natCast_dvd_natCast.2 (bc_dvd h (by omega) (by omega))) (Int.dvd_mul_right _ _)
  simp only [Nat.sub_zero, Nat.sub_self]
  have e : ∀ X a b : Int, ((1 : Nat) : Int) * a + (X + ((1 : Nat) : Int) * b) - (a + b) = X := fun X a b => by simp; omega
  rw [e]; exact this
/-- The sums, a prime number of times. -/
theorem frob {p : Nat} (h : Prm p) (F : Nat → Int) : ∀ (S : List Nat) (x : Nat), (p : Int) ∣ pw S p F x - sumL S (fun a => F (x + p * a))
  | [], x => by
    have hp := h.1
    obtain ⟨q, rfl⟩ : ∃ q, p = q + 1 := ⟨p - 1, by omega⟩
    exact Int.dvd_zero _
  | a :: S, x => by
    rw [pw_cons]
    have h1 := bs_prime h (fun i j => pw S i F (x + j * a))
    have h2 := frob h F S x
    have e : bs p (fun i j => pw S i F (x + j * a)) - sumL (a :: S) (fun b => F (x + p * b)) = (bs p (fun i j => pw S i F (x + j * a)) - (pw S p F (x + 0 * a) + pw S 0 F (x + p * a))) + (pw S p F x - sumL S (fun b => F (x + p * b))) := by
      show _ - (F (x + p * a) + sumL S (fun b => F (x + p * b))) = _ - (_ + F (x + p * a)) + _
      rw [Nat.zero_mul, Nat.add_zero]; omega
    rw [e]; exact Int.dvd_add h1 h2
theorem pw_const {p c : Int} {S : List Nat} {F : Nat → Int} (h : ∀ y, p ∣ F y - c) : ∀ m x, p ∣ pw S m F x - c * (S.length : Int) ^ m
  | 0, x => by rw [Int.pow_zero, Int.mul_one]; exact h x
  | m + 1, x => by
    have e : pw S (m + 1) F x - c * (S.length : Int) ^ (m + 1) = sumL S (fun a => pw S m F (x + a) - c * (S.length : Int) ^ m) := by
      rw [sumL_sub, sumL_const, Int.pow_succ, Int.mul_assoc]; rfl
    rw [e]; exact dvd_sumL fun a _ => pw_const h m (x + a)
theorem fermat {p : Nat} (h : Prm p) (k : Nat) : (p : Int) ∣ (k : Int) ^ p - k := by
  have h1 := frob h (fun _ => 1) (List.replicate k 0) 0
  have h2 := pw_const (p := (p : Int)) (c := 1) (S := List.replicate k 0) (F := fun _ => 1) (fun _ => by simp) p 0
  rw [sumL_const, List.length_replicate] at h1
  rw [List.length_replicate, Int.one_mul] at h2
  have := Int.dvd_sub h1 h2
  have e : pw (List.replicate k 0) p (fun _ => 1) 0 - 1 * (k : Int) - (pw (List.replicate k 0) p (fun _ => 1) 0 - (k : Int) ^ p) = (k : Int) ^ p - k := by omega
  rw [e] at this; exact this
end Go.Proofs.YtdbfpdhcaiiiaaaDoor
