/-
  Plain words: sums over lists; counting twice. No program in sight. No condition.
  Slices of ints that a call makes itself and grows by append. No condition.
-/
import Derived.Test.YtdbfpdhcaiiiaaaDoorPDifferMade2
import Derived.Test.YtdbfpdhcaiiiaaaDoorPDifferMade1
import Derived.Test.YtdbfpdhcaiiiaaaDoorRows
import Derived.Deep.AppendLies
import Derived.Laws.AppendOwn
namespace Go.Proofs.YtdbfpdhcaiiiaaaDoor
open Go.RowKit

def sumL {α : Type} : List α → (α → Int) → Int
  | [], _ => 0
  | a :: l, f => f a + sumL l f
section
variable {α β : Type}
theorem sumL_append (f : α → Int) : ∀ (l m : List α), sumL (l ++ m) f = sumL l f + sumL m f
  | [], m => by simp [sumL]
  | a :: l, m => by show f a + sumL (l ++ m) f = f a + sumL l f + sumL m f; rw [sumL_append f l m]; omega
theorem sumL_congr {f g : α → Int} : ∀ {l : List α}, (∀ x ∈ l, f x = g x) → sumL l f = sumL l g
  | [], _ => rfl
  | a :: l, h => by show f a + sumL l f = g a + sumL l g; rw [h a (by simp), sumL_congr fun x hx => h x (by simp [hx])]
theorem sumL_add (f g : α → Int) : ∀ l : List α, sumL l (fun x => f x + g x) = sumL l f + sumL l g
  | [] => rfl
  | a :: l => by show f a + g a + sumL l _ = f a + sumL l f + (g a + sumL l g); rw [sumL_add f g l]; omega
theorem sumL_sub (f g : α → Int) : ∀ l : List α, sumL l (fun x => f x - g x) = sumL l f - sumL l g
  | [] => rfl
  | a :: l => by show f a - g a + sumL l _ = f a + sumL l f - (g a + sumL l g); rw [sumL_sub f g l]; omega
theorem sumL_mul (c : Int) (f : α → Int) : ∀ l : List α, sumL l (fun x => c * f x) = c * sumL l f
  | [] => by simp [sumL]
  | a :: l => by show c * f a + sumL l _ = c * (f a + sumL l f); rw [sumL_mul c f l, Int.mul_add]
theorem sumL_mulr (c : Int) (f : α → Int) (l : List α) : sumL l (fun x => f x * c) = sumL l f * c := by
  rw [Int.mul_comm, ← sumL_mul]; exact sumL_congr fun x _ => Int.mul_comm _ _
theorem sumL_zero : ∀ l : List α, sumL l (fun _ => 0) = 0
  | [] => rfl
  | a :: l => by show 0 + sumL l _ = 0; rw [sumL_zero l]; rfl
theorem sumL_const (c : Int) : ∀ l : List α, sumL l (fun _ => c) = c * l.length
  | [] => by simp [sumL]
  | a :: l => by show c + sumL l _ = c * ((l.length + 1 : Nat) : Int); rw [sumL_const c l, Int.natCast_succ, Int.mul_add]; omega
theorem sumL_swap (f : α → β → Int) : ∀ (l : List α) (m : List β), sumL l (fun a => sumL m (f a)) = sumL m (fun b => sumL l (fun a => f a b))
  | [], m => by show 0 = sumL m (fun _ => 0); rw [sumL_zero]
  | a :: l, m => by
    show sumL m (f a) + sumL l (fun a => sumL m (f a)) = sumL m (fun b => f a b + sumL l (fun a => f a b))
    rw [sumL_add, sumL_swap f l m]
theorem sumL_nonneg {f : α → Int} : ∀ {l : List α}, (∀ x ∈ l, 0 ≤ f x) → 0 ≤ sumL l f
  | [], _ => by simp [sumL]
  | a :: l, h => by
    have := h a (by simp)
    have := sumL_nonneg (l := l) fun x hx => h x (by simp [hx])
    show 0 ≤ f a + sumL l f; omega
theorem sumL_le {f g : α → Int} {l : List α} (h : ∀ x ∈ l, f x ≤ g x) : sumL l f ≤ sumL l g := by
  have : 0 ≤ sumL l (fun x => g x - f x) := sumL_nonneg fun x hx => by have := h x hx; omega
  rw [sumL_sub] at this; omega
theorem sumL_null {f : α → Int} : ∀ {l : List α}, (∀ x ∈ l, 0 ≤ f x) → sumL l f = 0 → ∀ x ∈ l, f x = 0
  | [], _, _, x, hx => by cases hx
  | a :: l, h, e, x, hx => by
    have h1 := h a (by simp)
    have h2 := sumL_nonneg (l := l) fun x hx => h x (by simp [hx])
    have e' : f a + sumL l f = 0 := e
    rcases List.mem_cons.1 hx with rfl | hx
    · omega
    · exact sumL_null (l := l) (fun x hx => h x (by simp [hx])) (by omega) x hx
theorem sumL_map (g : α → β) (f : β → Int) : ∀ l : List α, sumL (l.map g) f = sumL l (fun x => f (g x))
  | [] => rfl
  | a :: l => by show f (g a) + sumL (l.map g) f = _; rw [sumL_map g f l]; rfl
/-- The square of a sum. -/
theorem sumL_sq (f : α → Int) (l : List α) : sumL l f * sumL l f = sumL l (fun a => sumL l (fun b => f a * f b)) := by
  rw [← sumL_mulr]
  exact sumL_congr fun a _ => by rw [← sumL_mul]
end
/-- One where it is true. -/
def ind (b : Bool) : Int := if b then 1 else 0
theorem ind_true : ind true = 1 := rfl
theorem ind_false : ind false = 0 := rfl
theorem ind_and (a b : Bool) : ind (a && b) = ind a * ind b := by cases a <;> cases b <;> rfl
theorem ind_not (a : Bool) : ind (!a) = 1 - ind a := by cases a <;> rfl
theorem ind_sq (a : Bool) : ind a * ind a = ind a := by cases a <;> rfl
theorem ind_nonneg (a : Bool) : 0 ≤ ind a := by cases a <;> decide
theorem ind_le (a : Bool) : ind a ≤ 1 := by cases a <;> decide
theorem ind_iff {a b : Bool} (h : a = true ↔ b = true) : ind a = ind b := by rw [Bool.eq_iff_iff.2 h]

/-- How many below k have a property. -/
def cnt (p : Nat → Bool) : Nat → Nat
  | 0 => 0
  | k + 1 => cnt p k + if p k then 1 else 0
theorem cnt_le (p : Nat → Bool) : ∀ k, cnt p k ≤ k
  | 0 => Nat.le_refl _
  | k + 1 => by have := cnt_le p k; rw [cnt]; split <;> omega
theorem cnt_congr {p q : Nat → Bool} : ∀ {k : Nat}, (∀ i, i < k → p i = q i) → cnt p k = cnt q k
  | 0, _ => rfl
  | k + 1, h => by rw [cnt, cnt, cnt_congr (k := k) fun i hi => h i (by omega), h k (by omega)]
theorem range_succ_sum (f : Nat → Int) (k : Nat) : sumL (List.range (k + 1)) f = sumL (List.range k) f + f k := by
  rw [List.range_succ, sumL_append]; simp [sumL]
theorem cnt_sum (p : Nat → Bool) : ∀ k, ((cnt p k : Nat) : Int) = sumL (List.range k) (fun i => ind (p i))
  | 0 => rfl
  | k + 1 => by
    rw [range_succ_sum, ← cnt_sum p k, cnt]
    cases e : p k
    · simp [ind]
    · simp [ind]
theorem sum_one {x : Nat} : ∀ {n : Nat} (f : Nat → Int), x < n → sumL (List.range n) (fun y => ind (y == x) * f y) = f x
  | 0, _, h => by omega
  | n + 1, f, h => by
    rw [range_succ_sum]
    by_cases e : x = n
    · subst e
      have : sumL (List.range x) (fun y => ind (y == x) * f y) = 0 := by
        rw [← sumL_zero (List.range x)]
        refine sumL_congr fun y hy => ?_
        rw [List.mem_range] at hy
        rw [show (y == x) = false by simp; omega]; simp [ind]
      rw [this]; simp [ind]
    · rw [sum_one f (by omega), show (n == x) = false by simp; omega]; simp [ind]
/-- A list without doubles has as many as are counted. -/
theorem nodup_count {n : Nat} : ∀ {l : List Nat}, l.Nodup → (∀ x ∈ l, x < n) → sumL (List.range n) (fun y => ind (l.contains y)) = l.length
  | [], _, _ => by simp only [List.contains_nil]; exact sumL_zero _
  | x :: l, h, g => by
    rw [List.nodup_cons] at h
    have e : ∀ y, ind ((x :: l).contains y) = ind (y == x) * 1 + ind (l.contains y) := by
      intro y
      rw [List.contains_cons]
      by_cases e : y = x
      · subst e
        have : l.contains y = false := by simpa using h.1
        rw [this]; simp [ind]
      · rw [show (y == x) = false by simpa using e]; simp [ind]
    rw [sumL_congr fun y _ => e y, sumL_add, sum_one (fun _ => 1) (g x (by simp)), nodup_count h.2 fun y hy => g y (by simp [hy])]
    simp only [List.length_cons, Int.natCast_succ]; omega
end Go.Proofs.YtdbfpdhcaiiiaaaDoor

namespace Go.Proofs.YtdbfpdhcaiiiaaaDoor
open Go.RowKit

/-- The ints as cells. -/
def cellsOf (xs : List Int) : List Value := xs.map (Value.int .i64)
theorem cellsOf_len (xs : List Int) : (cellsOf xs).length = xs.length := by simp [cellsOf]
theorem cellsOf_snoc (xs : List Int) (x : Int) : cellsOf (xs ++ [x]) = cellsOf xs ++ [.int .i64 x] := by simp [cellsOf]
/-- v is nil or a row of the call's own, from block base on; it reads as xs. -/
def Own (w : World) (base : Nat) (t : TypeId) (v : Value) (xs : List Int) : Prop := w.ownsRow base t 1 v xs.length (cellsOf xs)
theorem own_nil (w : World) (base : Nat) (t : TypeId) : Own w base t (.slice none 0 0) [] := World.ownsRow_nil w base t 1
theorem Own.intsAt {w : World} {base : Nat} {t : TypeId} {v : Value} {xs : List Int} (h : Own w base t v xs) (hl : xs.length ≤ 9223372036854775807) : IntsAt w v xs := by
  obtain ⟨h1, h2⟩ := h
  rcases h2 with ⟨rfl, hn⟩ | ⟨g, cap, cur, rfl, hg, hh, hc, hm, hs, ht⟩
  · obtain rfl : xs = [] := List.eq_nil_of_length_eq_zero hn
    exact intsAt_nil w
  · unfold maxLen at hm
    refine ⟨some ⟨g, 0, none⟩, cap, rfl, hc, by omega, (fun h => by cases h), fun i hi => ⟨g, 0, rfl, (Array.getElem?_eq_some_iff.1 hh).1, fun j hj => ?_⟩⟩
    rw [Nat.zero_add, cell_of_row w g j cur t (0, 0) hh]
    have e : (cur.toList.take (xs.length * 1))[j]? = (cellsOf xs)[j]? := by rw [ht]
    rw [List.getElem?_take_of_lt (by omega)] at e
    rw [← Array.getElem?_toList, e]
    simp [cellsOf, ix, hj]
theorem Own.shape {w : World} {base : Nat} {t : TypeId} {v : Value} {xs : List Int} (h : Own w base t v xs) : ∃ a l c, v = .slice a l c := by
  rcases h.2 with ⟨rfl, _⟩ | ⟨g, cap, cur, rfl, _⟩
  · exact ⟨_, _, _, rfl⟩
  · exact ⟨_, _, _, rfl⟩
theorem Own.alloc {w : World} {base : Nat} {t : TypeId} {v : Value} {xs : List Int} (h : Own w base t v xs) (o : Obj) : Own (w.alloc o) base t v xs := World.ownsRow.alloc h o
theorem Own.setFar {w : World} {base : Nat} {t : TypeId} {v : Value} {xs : List Int} (h : Own w base t v xs) {a : Addr} (ha : a.block < base) (u : Value) : Own (w.setCell a u) base t v xs := ownsRow_setCell_below h ha u
theorem Own.drewN {w : World} {base : Nat} {t : TypeId} {v : Value} {xs : List Int} (h : Own w base t v xs) (n : Nat) : Own (w.drewN n) base t v xs := h
theorem Own.drew {w : World} {base : Nat} {t : TypeId} {v : Value} {xs : List Int} (h : Own w base t v xs) : Own w.drew base t v xs := h
theorem Own.block {w : World} {base : Nat} {t : TypeId} {v : Value} {xs : List Int} (h : Own w base t v xs) : ∀ k, v.ownBlock = some k → base ≤ k ∧ k < w.heap.size := World.ownsRow.lt h
theorem Own.base {w : World} {base base' : Nat} {t : TypeId} {v : Value} {xs : List Int} (h : Own w base t v xs) (hb : base' ≤ base) : Own w base' t v xs := by
  obtain ⟨h1, h2⟩ := h
  refine ⟨h1, ?_⟩
  rcases h2 with h2 | ⟨g, cap, cur, e, hg, r⟩
  · exact .inl h2
  · exact .inr ⟨g, cap, cur, e, by omega, r⟩
/-- A cell of another block than the row's, behind an append. -/
theorem far_cell {w w' : World} {v : Value} (hg : w.grownBy w' v.ownBlock) {base : Nat} (hb : ∀ k, v.ownBlock = some k → base ≤ k) {b o : Nat} (hl : b < base) (hz : b < w.heap.size) :
    w'.cell? ⟨b, o, none⟩ = w.cell? ⟨b, o, none⟩ ∧ w'.frozen? ⟨b, o, none⟩ = w.frozen? ⟨b, o, none⟩ := by
  have hne : some b ≠ v.ownBlock := fun e => by have := hb b e.symm; omega
  exact ⟨hg.cell_far ⟨b, o, none⟩ hz hne, hg.frozen_far ⟨b, o, none⟩ hz hne⟩
theorem below_grown {w w' : World} {v : Value} (hg : w.grownBy w' v.ownBlock) {B : Nat} (hb : ∀ k, v.ownBlock = some k → B ≤ k) (hz : B ≤ w.heap.size) : Below B w w' :=
  (Below.refl B w).grown hg hz hb

theorem info_int : (Tryd.prog.info? 3).map (fun i => (i.zero, i.size, i.bytes)) = some (some (.int .i64 0), 1, 8) := by kernel_rfl

theorem info_bool : (Tryd.prog.info? 4).map (fun i => (i.zero, i.size, i.bytes)) = some (some (.bool false), 1, 1) := by kernel_rfl
theorem madeCells_one (z : Value) (n : Nat) : madeCells #[z] n = Array.replicate n z := by
  apply Array.ext
  · simp [madeCells]
  · intro i h1 h2
    simp [madeCells, Nat.mod_one]
/-- A slice of flags that was just made. -/
theorem flags_of_made {w : World} {base g n : Nat} {t : TypeId} (h : w.ownsRow base t 1 (.slice (some ⟨g, 0, none⟩) n n) n (madeCells #[Value.bool false] (n * 1)).toList) : Flags w g n (fun _ => false) := by
  rcases h.2 with ⟨e, _⟩ | ⟨g', cap, cur, e, hg, hh, hc, hm, hs, ht⟩
  · cases e
  · injection e with e1 e2 e3
    injection e1 with e1
    injection e1 with e1 _ _
    subst e1
    refine ⟨(Array.getElem?_eq_some_iff.1 hh).1, fun j hj => ⟨?_, by simp [World.frozen?, hh]⟩⟩
    rw [cell_of_row w g j cur t (0, 0) hh]
    have e4 : (cur.toList.take (n * 1))[j]? = ((madeCells #[Value.bool false] (n * 1)).toList)[j]? := by rw [ht]
    rw [List.getElem?_take_of_lt (by omega), madeCells_one] at e4
    rw [← Array.getElem?_toList, e4]
    simp [hj]

theorem news_one {w : World} {g : Nat} {y : Value} (hc : w.cell? ⟨g, 0, none⟩ = some y) : ∀ j u, [y][j]? = some u → w.cell? ((⟨g, 0, none⟩ : Addr).add j) = some u := by
  intro j u hu
  rcases j with _ | j
  · simp at hu; subst hu; exact hc
  · simp at hu
/-- append of one int to a slice of the call's own, outside regions that draw. -/
theorem app_own {ops : Array Oper} {rest : List Oper} {o : Oper} {a : Act} {w : World} {Q : Exit → Act → World → Prop} (hgd : o.guard = none) (s x : Operand)
    (ho : o.op = .call { callee := .builtin .append, args := #[s, x], argTypes := #[22, 22] }) {base : Nat} {v : Value} {xs : List Int} (hs : a.eval s = v) (hown : Own w base 3 v xs)
    (g : Nat) (y : Int) (hx : a.eval x = .slice (some ⟨g, 0, none⟩) 1 1) (hc : w.cell? ⟨g, 0, none⟩ = some (.int .i64 y)) (hl : xs.length < 1000000000) (hb : base ≤ w.heap.size)
    (h : ∀ v' w', Own w' base 3 v' (xs ++ [y]) → w.grownBy w' v.ownBlock → wpList Tryd.prog ops Q rest (a.put o.dst v') w') : wpList Tryd.prog ops Q (o :: rest) a w := by
  obtain ⟨i0, hi0, hz0, hz1, hz2⟩ := info_parts info_int
  refine wpList_append_own w hgd s x 22 ho base 3 i0 _ 1 8 Tryd.underlying22 hi0 hz0 hz1 hz2 rfl (by omega) v xs.length (cellsOf xs) hs hown ⟨g, 0, none⟩ 1 1 [.int .i64 y] hx rfl (news_one hc) (by simp [Value.oneCell'])
    (by unfold maxLen; omega) (by omega) hb ?_
  intro v' w' h1 h2 _
  refine h v' w' ?_ h2
  unfold Own
  rw [cellsOf_snoc, List.length_append]
  exact h1

end Go.Proofs.YtdbfpdhcaiiiaaaDoor
