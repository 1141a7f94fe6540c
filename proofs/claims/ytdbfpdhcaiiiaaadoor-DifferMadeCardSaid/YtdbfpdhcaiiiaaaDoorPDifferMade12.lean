/-
  The same words on fields over lists, so that they can be reckoned; all fields. No program in sight. No condition.
-/
import Derived.Test.YtdbfpdhcaiiiaaaDoorPDifferMade11
namespace Go.Proofs.YtdbfpdhcaiiiaaaDoor
open Go.RowKit

def gl (l : List Nat) (j : Nat) : Nat := l.getD j 0
def dg (p n : Nat) : Nat → List Nat
  | 0 => []
  | k + 1 => n % p :: dg p (n / p) k
def numL (p : Nat) : List Nat → Nat
  | [] => 0
  | x :: r => x + p * numL p r
def shL (p : Nat) (low x : List Nat) : List Nat := List.zipWith (fun b l => (b + (p - x.getD (low.length - 1) 0) * l) % p) (0 :: x) low
def mulGo (p : Nat) (low : List Nat) : List Nat → List Nat → List Nat → List Nat
  | _, out, [] => out
  | x, out, y :: ys => mulGo p low (shL p low x) (List.zipWith (fun o x => (o + x * y) % p) out x) ys
def mulC (p : Nat) (low : List Nat) (a b : Nat) : Nat :=
  numL p (mulGo p low (dg p a low.length) (List.replicate low.length 0) (dg p b low.length))
def addC (p d a b : Nat) : Nat := numL p (List.zipWith (fun x y => (x + y) % p) (dg p a d) (dg p b d))

theorem dg_len (p : Nat) : ∀ k n, (dg p n k).length = k
  | 0, _ => rfl
  | k + 1, n => by rw [dg, List.length_cons, dg_len p k]
theorem dg_get (p : Nat) : ∀ k n j, j < k → gl (dg p n k) j = dF p n j
  | 0, _, _, h => by omega
  | k + 1, n, 0, _ => by simp [gl, dg, dF]
  | k + 1, n, j + 1, h => by
    have := dg_get p k (n / p) j (by omega)
    unfold gl at this ⊢
    rw [dg, List.getD_cons_succ, this]
    unfold dF
    rw [Nat.pow_succ, Nat.div_div_eq_div_mul, Nat.mul_comm p]
theorem numS_shift (p d : Nat) (f : Nat → Nat) : ∀ s, s ≤ d → numS p (d + 1) f s = numS p d (fun j => f (j + 1)) s
  | 0, _ => rfl
  | s + 1, h => by
    rw [numS, numS, numS_shift p d f s (by omega)]
    have : d + 1 - 1 - s = d - 1 - s + 1 := by omega
    rw [this]
theorem numL_eq (p : Nat) : ∀ l : List Nat, numL p l = numF p l.length (gl l)
  | [] => rfl
  | x :: r => by
    rw [numL, numL_eq p r]
    unfold numF
    rw [List.length_cons, numS, numS_shift p _ _ _ (Nat.le_refl _)]
    have e : r.length + 1 - 1 - r.length = 0 := by omega
    rw [e]
    have e2 : (fun j => gl (x :: r) (j + 1)) = gl r := by funext j; rfl
    rw [e2]
    show x + p * _ = _ * p + x
    rw [Nat.mul_comm]; omega
theorem gl_zip (g : Nat → Nat → Nat) : ∀ (a b : List Nat) (j : Nat), j < a.length → j < b.length → gl (List.zipWith g a b) j = g (gl a j) (gl b j)
  | [], _, _, h, _ => by simp at h
  | _ :: _, [], _, _, h => by simp at h
  | x :: a, y :: b, 0, _, _ => rfl
  | x :: a, y :: b, j + 1, h1, h2 => gl_zip g a b j (by simpa using h1) (by simpa using h2)
theorem shL_len (p : Nat) (low x : List Nat) (h : x.length = low.length) : (shL p low x).length = low.length := by
  unfold shL; rw [List.length_zipWith, List.length_cons]; omega
theorem shL_get (p : Nat) (low x : List Nat) (h : x.length = low.length) {j : Nat} (hj : j < low.length) : gl (shL p low x) j = shF p low.length (gl low) (gl x) j := by
  unfold shL shF
  rw [gl_zip _ _ _ _ (by rw [List.length_cons]; omega) hj, if_pos hj]
  cases j with
  | zero => rfl
  | succ j => rfl
theorem mulGo_eq (p : Nat) (low : List Nat) (X Y : Nat → Nat) : ∀ (ys x out : List Nat) (i : Nat), x.length = low.length → out.length = low.length →
    (∀ j, j < low.length → gl x j = shN p low.length (gl low) X i j) → (∀ j, j < low.length → gl out j = outF p low.length (gl low) X Y i j) →
    (∀ j, j < ys.length → gl ys j = Y (i + j)) → ys.length + i = low.length →
    (mulGo p low x out ys).length = low.length ∧ ∀ j, j < low.length → gl (mulGo p low x out ys) j = outF p low.length (gl low) X Y low.length j
  | [], x, out, i, h1, h2, h3, h4, h5, h6 => by
    obtain rfl : i = low.length := by simpa using h6
    exact ⟨h2, h4⟩
  | y :: ys, x, out, i, h1, h2, h3, h4, h5, h6 => by
    rw [mulGo]
    refine mulGo_eq p low X Y ys _ _ (i + 1) (shL_len p low x h1) (by rw [List.length_zipWith]; omega) (fun j hj => ?_) (fun j hj => ?_) (fun j hj => ?_) (by rw [List.length_cons] at h6; omega)
    · rw [shL_get p low x h1 hj, shN]
      unfold shF
      rw [if_pos hj, if_pos hj, h3 (low.length - 1) (by omega)]
      cases j with
      | zero => rfl
      | succ j => rw [if_neg (by omega), if_neg (by omega), Nat.add_sub_cancel, h3 j (by omega)]
    · rw [gl_zip _ _ _ _ (by omega) (by omega), outF]
      dsimp only
      rw [if_pos hj, h3 j hj, h4 j hj]
      have := h5 0 (by simp)
      rw [show gl (y :: ys) 0 = y from rfl, Nat.add_zero] at this
      rw [this]
    · have := h5 (j + 1) (by simp; omega)
      rw [show gl (y :: ys) (j + 1) = gl ys j from rfl] at this
      rw [this]; congr 1; omega
theorem mulV_of (p : Nat) (low : List Nat) (a b : Nat) : mulV p low.length (gl low) a b = mulC p low a b := by
  unfold mulC mulV
  obtain ⟨h1, h2⟩ := mulGo_eq p low (dF p a) (dF p b) (dg p b low.length) (dg p a low.length) (List.replicate low.length 0) 0 (dg_len _ _ _) (by simp)
    (fun j hj => dg_get p _ _ _ hj) (fun j hj => by show gl _ j = 0; unfold gl; rw [List.getD_eq_getElem?_getD]; simp [hj]) (fun j hj => by rw [Nat.zero_add]; exact dg_get p _ _ _ (by rw [dg_len] at hj; exact hj)) (by rw [dg_len]; omega)
  rw [numL_eq, h1]
  exact numF_congr fun j hj => (h2 j hj).symm
theorem addV_of (p d a b : Nat) : addV p d a b = addC p d a b := by
  unfold addC addV
  rw [numL_eq, List.length_zipWith, dg_len, dg_len, Nat.min_self]
  exact numF_congr fun j hj => by rw [gl_zip _ _ _ _ (by rw [dg_len]; exact hj) (by rw [dg_len]; exact hj), dg_get p _ _ _ hj, dg_get p _ _ _ hj]

/-- All lists of so many digits. -/
def lows (p : Nat) : Nat → List (List Nat)
  | 0 => [[]]
  | d + 1 => (lows p d).flatMap fun l => (List.range p).map fun x => x :: l
theorem mem_lows (p : Nat) : ∀ (d : Nat) (l : List Nat), l.length = d → (∀ x ∈ l, x < p) → l ∈ lows p d
  | 0, l, h, _ => by rw [List.eq_nil_of_length_eq_zero h]; simp [lows]
  | d + 1, [], h, _ => by simp at h
  | d + 1, x :: l, h, hl => by
    rw [lows, List.mem_flatMap]
    exact ⟨l, mem_lows p d l (by simpa using h) (fun y hy => hl y (by simp [hy])), List.mem_map.2 ⟨x, List.mem_range.2 (hl x (by simp)), rfl⟩⟩
/-- The digits of a field as numbers. -/
def lowN (low : List Int) : List Nat := low.map Int.toNat
theorem lowN_len (low : List Int) : (lowN low).length = low.length := by simp [lowN]
theorem lowN_get (low : List Int) : lF low = gl (lowN low) := by
  funext j
  unfold lF gl lowN ix
  rw [List.getD_eq_getElem?_getD, List.getD_eq_getElem?_getD, List.getElem?_map]
  cases low[j]? <;> rfl
theorem IsField.mem {p d : Nat} {low : List Int} (h : IsField p d low) : lowN low ∈ lows p d := by
  refine mem_lows p d _ (by rw [lowN_len]; exact h.len) (fun x hx => ?_)
  obtain ⟨n, hn, rfl⟩ := List.mem_map.1 hx
  obtain ⟨k, hk, rfl⟩ := List.getElem_of_mem hn
  have := h.rng k (by rw [← h.len]; exact hk)
  rw [ix_lt hk] at this
  have := h.p2
  omega

/-- Division over lists. -/
def redL (p n t : Nat) (d a : List Nat) : List Nat :=
  (List.range a.length).map fun j => if t ≤ j ∧ j < t + n then (a.getD j 0 + (p - a.getD (t + n) 0) * d.getD (j - t) 0) % p else if j = t + n then 0 else a.getD j 0
def divGo (p n k : Nat) (d a : List Nat) : Nat → List Nat
  | 0 => a
  | s + 1 => redL p n (k - s - n) d (divGo p n k d a s)
def divC (p n k : Nat) (d low : List Nat) : Bool := (divGo p n k d (low ++ [1]) (k + 1 - n)).all (· == 0)
def irrC (p k : Nat) (low : List Nat) : Bool := (List.range (k / 2)).all fun n => (List.range (p ^ (n + 1))).all fun c => !divC p (n + 1) k (dg p c (n + 1)) low
theorem redL_len (p n t : Nat) (d a : List Nat) : (redL p n t d a).length = a.length := by simp [redL]
theorem redL_get (p n t : Nat) (d a : List Nat) (D A : Nat → Nat) (hd : ∀ j, j < n → gl d j = D j) (ha : ∀ j, j < a.length → gl a j = A j) (ht : t + n < a.length) {j : Nat} (hj : j < a.length) : gl (redL p n t d a) j = redF p n t D A j := by
  have e : gl (redL p n t d a) j = if t ≤ j ∧ j < t + n then (a.getD j 0 + (p - a.getD (t + n) 0) * d.getD (j - t) 0) % p else if j = t + n then 0 else a.getD j 0 := by
    unfold gl redL; rw [List.getD_eq_getElem?_getD]; simp [hj]
  rw [e]
  unfold redF
  have h1 := ha j hj
  have h2 := ha (t + n) ht
  unfold gl at h1 h2
  rw [h1, h2]
  by_cases hc : t ≤ j ∧ j < t + n
  · rw [if_pos hc, if_pos hc]
    have h3 := hd (j - t) (by omega)
    unfold gl at h3
    rw [h3]
  · rw [if_neg hc, if_neg hc]
theorem divGo_len (p n k : Nat) (d a : List Nat) : ∀ s, (divGo p n k d a s).length = a.length
  | 0 => rfl
  | s + 1 => by rw [divGo, redL_len, divGo_len p n k d a s]
theorem divGo_get (p n k : Nat) (d a : List Nat) (D A : Nat → Nat) (hn : n ≤ k) (hl : a.length = k + 1) (hd : ∀ j, j < n → gl d j = D j) (ha : ∀ j, j < a.length → gl a j = A j) :
    ∀ s, s ≤ k + 1 - n → ∀ j, j < a.length → gl (divGo p n k d a s) j = divF p n k D A s j
  | 0, _, j, hj => ha j hj
  | s + 1, hs, j, hj => by
    have ih := divGo_get p n k d a D A hn hl hd ha s (by omega)
    rw [divGo, divF]
    exact redL_get p n _ d _ D _ hd (fun i hi => ih i (by rw [divGo_len] at hi; exact hi)) (by rw [divGo_len]; omega) (by rw [divGo_len]; exact hj)
theorem divC_eq (p n k : Nat) (low : List Nat) (c : Nat) (hn : n ≤ k) (hl : low.length = k) : divC p n k (dg p c n) low = divB p n k (dF p c) (topF k (gl low)) := by
  unfold divC divB
  have hlen : (low ++ [1]).length = k + 1 := by simp [hl]
  have hg := divGo_get p n k (dg p c n) (low ++ [1]) (dF p c) (topF k (gl low)) hn hlen (fun j hj => dg_get p _ _ _ hj) (fun j hj => by
    unfold topF gl
    by_cases h : j < k
    · rw [if_pos h, List.getD_eq_getElem?_getD, List.getElem?_append_left (by omega), List.getD_eq_getElem?_getD]
    · have ej : j = k := by omega
      rw [if_neg h, if_pos ej, List.getD_eq_getElem?_getD, List.getElem?_append_right (by omega), ej, hl]; simp) (k + 1 - n) (Nat.le_refl _)
  have hl2 := divGo_len p n k (dg p c n) (low ++ [1]) (k + 1 - n)
  rw [hlen] at hl2 hg
  generalize divGo p n k (dg p c n) (low ++ [1]) (k + 1 - n) = L at *
  rw [Bool.eq_iff_iff, List.all_eq_true, List.all_eq_true]
  constructor
  · intro h j hj
    have hj := List.mem_range.1 hj
    rw [← hg j hj]
    have := h L[j] (List.getElem_mem (by omega))
    unfold gl; rw [List.getD_eq_getElem?_getD, List.getElem?_eq_getElem (by omega)]; exact this
  · intro h x hx
    obtain ⟨j, hj, rfl⟩ := List.getElem_of_mem hx
    have := h j (List.mem_range.2 (by omega))
    rw [← hg j (by omega)] at this
    unfold gl at this; rw [List.getD_eq_getElem?_getD, List.getElem?_eq_getElem (by omega)] at this; exact this
theorem irrC_eq (p k : Nat) (low : List Nat) (hl : low.length = k) : irrB p k (gl low) = irrC p k low := by
  unfold irrB noDivs noDiv irrC
  rw [Bool.eq_iff_iff, List.all_eq_true, List.all_eq_true]
  constructor
  · intro h n hn
    have := h n hn
    rw [List.all_eq_true] at this ⊢
    intro c hc
    have hn := List.mem_range.1 hn
    rw [divC_eq p (n + 1) k low c (by omega) hl]
    exact this c hc
  · intro h n hn
    have := h n hn
    rw [List.all_eq_true] at this ⊢
    intro c hc
    have hn := List.mem_range.1 hn
    rw [← divC_eq p (n + 1) k low c (by omega) hl]
    exact this c hc
theorem IsField.irrC {p d : Nat} {low : List Int} (h : IsField p d low) : Go.Proofs.YtdbfpdhcaiiiaaaDoor.irrC p d (lowN low) = true := by
  have := h.irr
  rw [lowN_get, irrC_eq p d _ (by rw [lowN_len]; exact h.len)] at this
  exact this
/-- Which orders there are. -/
def ordersL : List (Nat × Nat) := [(2, 2), (2, 3), (2, 4), (2, 5), (2, 6), (3, 2), (3, 3), (5, 2), (7, 2)]
theorem orders_all : ((List.range 7).all fun d => (List.range 62).all fun p => !isPB (p : Int) || d == 0 || !decide (p ^ d ≤ 64) || d == 1 || ordersL.contains (p, d)) = true := by decide +kernel
theorem IsField.cases {p d : Nat} {low : List Int} (h : IsField p d low) : d = 1 ∨ (p, d) ∈ ordersL := by
  have h1 := List.all_eq_true.1 orders_all d (List.mem_range.2 (by have := h.d6; omega))
  have h2 := List.all_eq_true.1 h1 p (List.mem_range.2 (by have := h.p61; omega))
  have := h.d1
  have := h.q64
  simp only [h.pr, Bool.not_true, Bool.false_or, Bool.or_eq_true, beq_iff_eq, Bool.not_eq_true', decide_eq_false_iff_not, List.contains_iff_mem] at h2
  rcases h2 with ((h2 | h2) | h2) | h2
  · omega
  · omega
  · exact .inl h2
  · exact .inr h2

/-- A power, by squares. -/
def powS (M : Nat → Nat → Nat) : Nat → Nat → Nat → Nat → Nat
  | 0, out, _, _ => out
  | f + 1, out, a, n => if n = 0 then out else powS M f (if n % 2 = 1 then M out a else out) (M a a) (n / 2)
/-- The order of an element. -/
def ordS (M : Nat → Nat → Nat) (a : Nat) : Nat → Nat → Nat → Option Nat
  | 0, _, _ => none
  | f + 1, b, m => if b = 1 ∨ b = 0 then some m else ordS M a f (M b a) (m + 1)
/-- The least element whose powers are all. -/
def rootS (M : Nat → Nat → Nat) (q : Nat) : Nat → Nat → Option Nat
  | 0, _ => none
  | f + 1, a => match ordS M a 64 a 1 with
    | none => none
    | some m => if m = q - 1 then some a else rootS M q f (a + 1)
/-- The product in a field. -/
def mulM (p d : Nat) (low : List Int) (a b : Nat) : Nat := mulV p d (lF low) a b
theorem mulM_lt {p d : Nat} {low : List Int} (hF : IsField p d low) (a b : Nat) : mulM p d low a b < 64 := by
  have := mulV_lt (p := p) (d := d) (low := lF low) (a := a) (b := b) (by have := hF.p2; omega)
  have := hF.q64
  unfold mulM; omega
theorem mulM_of {p d : Nat} {low : List Int} (hF : IsField p d low) : mulM p d low = mulC p (lowN low) := by
  funext a b
  have := mulV_of p (lowN low) a b
  rw [lowN_len, hF.len] at this
  unfold mulM
  rw [lowN_get, this]
def mul1 (p a b : Nat) : Nat := (0 + a % p * (b % p)) % p + p * 0
theorem mulC_one (p l : Nat) : mulC p [l] = mul1 p := rfl
theorem root_one : (primesL.all fun p => (rootS (mul1 p.toNat) p.toNat 62 1).isSome) = true := by decide +kernel
def rootAll (p d : Nat) : Bool := (lows p d).all fun l => !irrC p d l || (rootS (mulC p l) (p ^ d) 62 1).isSome
theorem root22 : rootAll 2 2 = true := by decide +kernel
theorem root23 : rootAll 2 3 = true := by decide +kernel
theorem root24 : rootAll 2 4 = true := by decide +kernel
theorem root25 : rootAll 2 5 = true := by decide +kernel
theorem root26 : rootAll 2 6 = true := by decide +kernel
theorem root32 : rootAll 3 2 = true := by decide +kernel
theorem root33 : rootAll 3 3 = true := by decide +kernel
theorem root52 : rootAll 5 2 = true := by decide +kernel
theorem root72 : rootAll 7 2 = true := by decide +kernel
theorem rootAll_of {p d : Nat} {low : List Int} (hF : IsField p d low) (h : rootAll p d = true) : (rootS (mulC p (lowN low)) (p ^ d) 62 1).isSome = true := by
  have := List.all_eq_true.1 h _ hF.mem
  rw [hF.irrC] at this
  simpa using this
theorem root_is {p d : Nat} {low : List Int} (hF : IsField p d low) : (rootS (mulM p d low) (p ^ d) 62 1).isSome = true := by
  rw [mulM_of hF]
  rcases hF.cases with h | h
  · subst h
    obtain ⟨l, hl⟩ : ∃ l, lowN low = [l] := by
      have h1 := hF.len
      rw [← lowN_len] at h1
      match hh : lowN low, h1 with
      | [l], _ => exact ⟨l, rfl⟩
    rw [hl, mulC_one, Nat.pow_one]
    have hp := hF.pr
    unfold isPB at hp
    rw [List.contains_eq_mem, decide_eq_true_eq] at hp
    have := List.all_eq_true.1 root_one _ hp
    simpa using this
  · simp only [ordersL, List.mem_cons, Prod.mk.injEq, List.not_mem_nil, or_false] at h
    rcases h with h | h | h | h | h | h | h | h | h
    all_goals obtain ⟨rfl, rfl⟩ := h
    · exact rootAll_of hF root22
    · exact rootAll_of hF root23
    · exact rootAll_of hF root24
    · exact rootAll_of hF root25
    · exact rootAll_of hF root26
    · exact rootAll_of hF root32
    · exact rootAll_of hF root33
    · exact rootAll_of hF root52
    · exact rootAll_of hF root72
/-- The least root. -/
def rootN (p d : Nat) (low : List Int) : Nat := (rootS (mulM p d low) (p ^ d) 62 1).getD 0
theorem root_some {p d : Nat} {low : List Int} (hF : IsField p d low) : rootS (mulM p d low) (p ^ d) 62 1 = some (rootN p d low) := by
  have := root_is hF
  unfold rootN
  cases h : rootS (mulM p d low) (p ^ d) 62 1 with
  | none => rw [h] at this; cases this
  | some r => rfl
end Go.Proofs.YtdbfpdhcaiiiaaaDoor
