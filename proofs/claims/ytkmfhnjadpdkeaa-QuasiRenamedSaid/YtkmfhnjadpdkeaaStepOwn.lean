/-
  In a region that draws its order: append of one int to a slice of the call's own; Clone of a slice that may be nil. No condition.
-/
import Derived.BigRegion
import Derived.Deep.AppendLies
import Derived.Deep.RegionLaw
import Derived.Deep.RegionHeld3
import Derived.Test.YtkmfhnjadpdkeaaClone
namespace Go.Proofs.Ytkmfhnjadpdkeaa
open Go.RowKit

theorem keep_cell {W w2 : World} (hb : Below W.heap.size W w2) {b o : Nat} {x : Value} (hlt : b < W.heap.size) (hc : W.cell? ⟨b, o, none⟩ = some x) : w2.cell? ⟨b, o, none⟩ = some x := by
  rw [(bcell hb).1 _ _ hlt]; exact hc
theorem lt_box (w : World) (o : Obj) : w.heap.size < (w.alloc o).heap.size := by simp
theorem le_box {n : Nat} {w : World} (h : n ≤ w.heap.size) (o : Obj) : n ≤ (w.alloc o).heap.size := by simp; omega
set_option maxRecDepth 100000 in
theorem step_ints {ops : Array Oper} {o : Oper} {a : Act} {w : World} {K : Act → World → Prop} {Q : Exit → Act → World → Prop} {E : Prop} (hgd : o.guard = none) (s x : Operand)
    (ho : o.op = .call { callee := .builtin .append, args := #[s, x], argTypes := #[22, 22] }) {base : Nat} {v : Value} {xs : List Int} (hs : a.eval s = v) (hown : Own w base 3 v xs)
    (g : Nat) {y : Int} (hx : a.eval x = .slice (some ⟨g, 0, none⟩) 1 1) (hc : w.cell? ⟨g, 0, none⟩ = some (.int .i64 y)) (hl : xs.length < 1000000000) (hb : base ≤ w.heap.size)
    (h : ∀ v' w', Own w' base 3 v' (xs ++ [y]) → w.grownBy w' v.ownBlock → K (a.put o.dst v') w') : if Region.wanted o (yielded ops a.tmps) = true then Oper.wp Try.prog o a w K Q else E := by
  obtain ⟨i0, hi0, hz0, hz1, hz2⟩ := info_parts info_int
  refine step_append_lies w hgd s x 22 ho base 3 i0 _ 1 8 Try.underlying22 hi0 hz0 hz1 hz2 rfl (by omega) v xs.length (cellsOf xs) hs hown ⟨g, 0, none⟩ 1 1 [.int .i64 y] hx rfl (news_one hc) (by simp [Value.oneCell'])
    (by omega) (by unfold maxLen; omega) (by omega) hb _ rfl ?_
  intro gg cap w' q1 q2 _ _
  refine h _ w' ?_ q2
  unfold Own
  rw [cellsOf_snoc, List.length_append]
  exact q1

set_option maxRecDepth 100000 in
theorem clone_nil (w : World) :
    Calls Try.prog 72 #[.slice none 0 0] w fun e w' => e = .returned (.slice none 0 0) ∧ w = w' := by
  have hnil := fun W => Lib.run_eql_slice_nil (P := Try.prog) W 22 3 none 0 0 0 0 Try.underlying22
  go_enter Try.func72, Try.ntmps72
  go_wp2_with fail
  go_ret
  exact ⟨rfl, rfl⟩
/-- Clone of a slice that holds some, or is nil. -/
def ClonePost (xs : List Int) (w : World) : Ending → World → Prop := fun e w' => ∃ v', e = .returned v' ∧ Own w' w.heap.size 3 v' xs ∧ Below w.heap.size w w'
theorem clone_both (v : Value) (xs : List Int) (w : World) (h : IntsAt w v xs) (hv : 0 < xs.length ∨ v = .slice none 0 0) (hl : xs.length < 1000000000) :
    Calls Try.prog 72 #[v] w (ClonePost xs w) := by
  by_cases hp : 0 < xs.length
  · exact clone_any v xs w h hp hl
  · obtain rfl : xs = [] := List.eq_nil_of_length_eq_zero (by omega)
    rcases hv with hv | rfl
    · exact absurd hv hp
    · refine (clone_nil w).mono ?_
      rintro e w' ⟨rfl, rfl⟩
      exact ⟨_, rfl, own_nil _ _ _, Below.refl _ _⟩
end Go.Proofs.Ytkmfhnjadpdkeaa
