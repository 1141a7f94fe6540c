/-
  Slices of ints that a call makes itself and grows by append. No condition.
-/
import Derived.Test.YtimfggbfapbihaaLib
import Derived.Test.YtimfggbfapbihaaRows
import Derived.Deep.AppendLies
import Derived.Laws.AppendOwn
namespace Go.Proofs.Ytimfggbfapbihaa
open Go.RowKit

/-- The ints as cells. -/
def cellsOf (xs : List Int) : List Value := xs.map (Value.int .i64)
theorem cellsOf_len (xs : List Int) : (cellsOf xs).length = xs.length := by simp [cellsOf]
theorem cellsOf_snoc (xs : List Int) (x : Int) : cellsOf (xs ++ [x]) = cellsOf xs ++ [.int .i64 x] := by simp [cellsOf]
/-- v is nil or a row of the call's own, from block base on; it reads as xs. -/
def Own (w : World) (base : Nat) (t : TypeId) (v : Value) (xs : List Int) : Prop := w.ownsRow base t 1 v xs.length (cellsOf xs)
theorem own_nil (w : World) (base : Nat) (t : TypeId) : Own w base t (.slice none 0 0) [] := World.ownsRow_nil w base t 1
theorem Own.intsAt {w : World} {base : Nat} {t : TypeId} {v : Value} {xs : List Int} (h : Own w base t v xs) (hl : xs.length ≤ 9223372036854775807) : IntsAt w v xs := by
  obtain ⟨h1, h2⟩ := h
  rcases h2 with ⟨rfl, hn⟩ | ⟨g, cap, cur, rfl, hg, hh, hc, hm, hs, ht⟩
  · obtain rfl : xs = [] := List.eq_nil_of_length_eq_zero hn
    exact intsAt_nil w
  · unfold maxLen at hm
    refine ⟨some ⟨g, 0, none⟩, cap, rfl, hc, by omega, (fun h => by cases h), fun i hi => ⟨g, 0, rfl, (Array.getElem?_eq_some_iff.1 hh).1, fun j hj => ?_⟩⟩
    rw [Nat.zero_add, cell_of_row w g j cur t (0, 0) hh]
    have e : (cur.toList.take (xs.length * 1))[j]? = (cellsOf xs)[j]? := by rw [ht]
    rw [List.getElem?_take_of_lt (by omega)] at e
    rw [← Array.getElem?_toList, e]
    simp [cellsOf, ix, hj]
theorem Own.shape {w : World} {base : Nat} {t : TypeId} {v : Value} {xs : List Int} (h : Own w base t v xs) : ∃ a l c, v = .slice a l c := by
  rcases h.2 with ⟨rfl, _⟩ | ⟨g, cap, cur, rfl, _⟩
  · exact ⟨_, _, _, rfl⟩
  · exact ⟨_, _, _, rfl⟩
theorem Own.alloc {w : World} {base : Nat} {t : TypeId} {v : Value} {xs : List Int} (h : Own w base t v xs) (o : Obj) : Own (w.alloc o) base t v xs := World.ownsRow.alloc h o
theorem Own.setFar {w : World} {base : Nat} {t : TypeId} {v : Value} {xs : List Int} (h : Own w base t v xs) {a : Addr} (ha : a.block < base) (u : Value) : Own (w.setCell a u) base t v xs := ownsRow_setCell_below h ha u
theorem Own.drewN {w : World} {base : Nat} {t : TypeId} {v : Value} {xs : List Int} (h : Own w base t v xs) (n : Nat) : Own (w.drewN n) base t v xs := h
theorem Own.drew {w : World} {base : Nat} {t : TypeId} {v : Value} {xs : List Int} (h : Own w base t v xs) : Own w.drew base t v xs := h
theorem Own.block {w : World} {base : Nat} {t : TypeId} {v : Value} {xs : List Int} (h : Own w base t v xs) : ∀ k, v.ownBlock = some k → base ≤ k ∧ k < w.heap.size := World.ownsRow.lt h
theorem Own.base {w : World} {base base' : Nat} {t : TypeId} {v : Value} {xs : List Int} (h : Own w base t v xs) (hb : base' ≤ base) : Own w base' t v xs := by
  obtain ⟨h1, h2⟩ := h
  refine ⟨h1, ?_⟩
  rcases h2 with h2 | ⟨g, cap, cur, e, hg, r⟩
  · exact .inl h2
  · exact .inr ⟨g, cap, cur, e, by omega, r⟩
/-- A cell of another block than the row's, behind an append. -/
theorem far_cell {w w' : World} {v : Value} (hg : w.grownBy w' v.ownBlock) {base : Nat} (hb : ∀ k, v.ownBlock = some k → base ≤ k) {b o : Nat} (hl : b < base) (hz : b < w.heap.size) :
    w'.cell? ⟨b, o, none⟩ = w.cell? ⟨b, o, none⟩ ∧ w'.frozen? ⟨b, o, none⟩ = w.frozen? ⟨b, o, none⟩ := by
  have hne : some b ≠ v.ownBlock := fun e => by have := hb b e.symm; omega
  exact ⟨hg.cell_far ⟨b, o, none⟩ hz hne, hg.frozen_far ⟨b, o, none⟩ hz hne⟩
theorem below_grown {w w' : World} {v : Value} (hg : w.grownBy w' v.ownBlock) {B : Nat} (hb : ∀ k, v.ownBlock = some k → B ≤ k) (hz : B ≤ w.heap.size) : Below B w w' :=
  (Below.refl B w).grown hg hz hb

theorem info_int : (Try.prog.info? 3).map (fun i => (i.zero, i.size, i.bytes)) = some (some (.int .i64 0), 1, 8) := by kernel_rfl

theorem info_bool : (Try.prog.info? 4).map (fun i => (i.zero, i.size, i.bytes)) = some (some (.bool false), 1, 1) := by kernel_rfl
theorem madeCells_one (z : Value) (n : Nat) : madeCells #[z] n = Array.replicate n z := by
  apply Array.ext
  · simp [madeCells]
  · intro i h1 h2
    simp [madeCells, Nat.mod_one]
/-- A slice of flags that was just made. -/
theorem flags_of_made {w : World} {base g n : Nat} {t : TypeId} (h : w.ownsRow base t 1 (.slice (some ⟨g, 0, none⟩) n n) n (madeCells #[Value.bool false] (n * 1)).toList) : Flags w g n (fun _ => false) := by
  rcases h.2 with ⟨e, _⟩ | ⟨g', cap, cur, e, hg, hh, hc, hm, hs, ht⟩
  · cases e
  · injection e with e1 e2 e3
    injection e1 with e1
    injection e1 with e1 _ _
    subst e1
    refine ⟨(Array.getElem?_eq_some_iff.1 hh).1, fun j hj => ⟨?_, by simp [World.frozen?, hh]⟩⟩
    rw [cell_of_row w g j cur t (0, 0) hh]
    have e4 : (cur.toList.take (n * 1))[j]? = ((madeCells #[Value.bool false] (n * 1)).toList)[j]? := by rw [ht]
    rw [List.getElem?_take_of_lt (by omega), madeCells_one] at e4
    rw [← Array.getElem?_toList, e4]
    simp [hj]

theorem news_one {w : World} {g : Nat} {y : Value} (hc : w.cell? ⟨g, 0, none⟩ = some y) : ∀ j u, [y][j]? = some u → w.cell? ((⟨g, 0, none⟩ : Addr).add j) = some u := by
  intro j u hu
  rcases j with _ | j
  · simp at hu; subst hu; exact hc
  · simp at hu
/-- append of one int to a slice of the call's own, outside regions that draw. -/
theorem app_own {ops : Array Oper} {rest : List Oper} {o : Oper} {a : Act} {w : World} {Q : Exit → Act → World → Prop} (hgd : o.guard = none) (s x : Operand)
    (ho : o.op = .call { callee := .builtin .append, args := #[s, x], argTypes := #[37, 37] }) {base : Nat} {v : Value} {xs : List Int} (hs : a.eval s = v) (hown : Own w base 3 v xs)
    (g : Nat) (y : Int) (hx : a.eval x = .slice (some ⟨g, 0, none⟩) 1 1) (hc : w.cell? ⟨g, 0, none⟩ = some (.int .i64 y)) (hl : xs.length < 1000000000) (hb : base ≤ w.heap.size)
    (h : ∀ v' w', Own w' base 3 v' (xs ++ [y]) → w.grownBy w' v.ownBlock → wpList Try.prog ops Q rest (a.put o.dst v') w') : wpList Try.prog ops Q (o :: rest) a w := by
  obtain ⟨i0, hi0, hz0, hz1, hz2⟩ := info_parts info_int
  refine wpList_append_own w hgd s x 37 ho base 3 i0 _ 1 8 Try.underlying37 hi0 hz0 hz1 hz2 rfl (by omega) v xs.length (cellsOf xs) hs hown ⟨g, 0, none⟩ 1 1 [.int .i64 y] hx rfl (news_one hc) (by simp [Value.oneCell'])
    (by unfold maxLen; omega) (by omega) hb ?_
  intro v' w' h1 h2 _
  refine h v' w' ?_ h2
  unfold Own
  rw [cellsOf_snoc, List.length_append]
  exact h1

end Go.Proofs.Ytimfggbfapbihaa
