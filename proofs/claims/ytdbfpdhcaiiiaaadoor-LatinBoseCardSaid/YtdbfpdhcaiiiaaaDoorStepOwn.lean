/-
  In a region that draws its order: append of one int to a slice of the call's own; Clone of a slice that may be nil. No condition.
-/
import Derived.BigRegion
import Derived.Deep.AppendLies
import Derived.Deep.RegionLaw
import Derived.Deep.RegionHeld3
import Derived.Test.YtdbfpdhcaiiiaaaDoorClone
namespace Go.Proofs.YtdbfpdhcaiiiaaaDoor
open Go.RowKit

theorem keep_cell {W w2 : World} (hb : Below W.heap.size W w2) {b o : Nat} {x : Value} (hlt : b < W.heap.size) (hc : W.cell? ⟨b, o, none⟩ = some x) : w2.cell? ⟨b, o, none⟩ = some x := by
  rw [(bcell hb).1 _ _ hlt]; exact hc
theorem lt_box (w : World) (o : Obj) : w.heap.size < (w.alloc o).heap.size := by simp
theorem le_box {n : Nat} {w : World} (h : n ≤ w.heap.size) (o : Obj) : n ≤ (w.alloc o).heap.size := by simp; omega
set_option maxRecDepth 100000 in
theorem step_ints {ops : Array Oper} {o : Oper} {a : Act} {w : World} {K : Act → World → Prop} {Q : Exit → Act → World → Prop} {E : Prop} (hgd : o.guard = none) (s x : Operand)
    (ho : o.op = .call { callee := .builtin .append, args := #[s, x], argTypes := #[22, 22] }) {base : Nat} {v : Value} {xs : List Int} (hs : a.eval s = v) (hown : Own w base 3 v xs)
    (g : Nat) {y : Int} (hx : a.eval x = .slice (some ⟨g, 0, none⟩) 1 1) (hc : w.cell? ⟨g, 0, none⟩ = some (.int .i64 y)) (hl : xs.length < 1000000000) (hb : base ≤ w.heap.size)
    (h : ∀ v' w', Own w' base 3 v' (xs ++ [y]) → w.grownBy w' v.ownBlock → K (a.put o.dst v') w') : if Region.wanted o (yielded ops a.tmps) = true then Oper.wp Tryd.prog o a w K Q else E := by
  obtain ⟨i0, hi0, hz0, hz1, hz2⟩ := info_parts info_int
  refine step_append_lies w hgd s x 22 ho base 3 i0 _ 1 8 Tryd.underlying22 hi0 hz0 hz1 hz2 rfl (by omega) v xs.length (cellsOf xs) hs hown ⟨g, 0, none⟩ 1 1 [.int .i64 y] hx rfl (news_one hc) (by simp [Value.oneCell'])
    (by omega) (by unfold maxLen; omega) (by omega) hb _ rfl ?_
  intro gg cap w' q1 q2 _ _
  refine h _ w' ?_ q2
  unfold Own
  rw [cellsOf_snoc, List.length_append]
  exact q1

/-- Clone of a slice that holds some, or is nil. -/
def ClonePost (xs : List Int) (w : World) : Ending → World → Prop := fun e w' => ∃ v', e = .returned v' ∧ Own w' w.heap.size 3 v' xs ∧ Below w.heap.size w w'
end Go.Proofs.YtdbfpdhcaiiiaaaDoor
