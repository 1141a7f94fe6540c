/-
  Contract: slices.Clone over ints, of a slice that holds some; append of a whole slice to an empty one. No condition.
-/
import Derived.Test.YtdbfpdhcaiiiaaaDoorSlice
namespace Go.Proofs.YtdbfpdhcaiiiaaaDoor
open Go.RowKit

/-- append of a slice that holds some to an empty one without capacity. -/
theorem app_whole {ops : Array Oper} {rest : List Oper} {o : Oper} {a : Act} {w : World} {Q : Exit → Act → World → Prop} (hgd : o.guard = none) (s x : Operand)
    (ho : o.op = .call { callee := .builtin .append, args := #[s, x], argTypes := #[22, 22] }) {b : Addr} (hs : a.eval s = .slice (some b) 0 0)
    {q : Option Addr} {c : Nat} {ys : List Int} (hI : IntsAt w (.slice q ys.length c) ys) (hx : a.eval x = .slice q ys.length c) (hy : 0 < ys.length) (hl : ys.length < 1000000000)
    (h : ∀ v' w', Own w' w.heap.size 3 v' ys → w.grownBy w' none → wpList Tryd.prog ops Q rest (a.put o.dst v') w') : wpList Tryd.prog ops Q (o :: rest) a w := by
  obtain ⟨i0, hi0, hz0, hz1, hz2⟩ := info_parts info_int
  obtain ⟨a', c', e, h2, h3, h4, h5⟩ := hI
  injection e with e1 e2 e3
  subst e1; subst e3
  obtain ⟨p, off, rfl, hbb, hc⟩ := h5 0 hy
  refine wpList_append_grows w hgd s x 22 ho 3 i0 _ 1 8 Tryd.underlying22 hi0 hz0 hz1 hz2 rfl (by omega) (some b) 0 0 [] hs
    (fun hn => by cases hn) rfl (fun p _ j u hu => by simp at hu) ⟨p, off, none⟩ ys.length c (cellsOf ys) hx (by rw [cellsOf_len]; omega) (fun j u hu => ?_) (fun u hu => ?_) (by omega) (by unfold maxLen; omega) (by omega) ?_
  · have hj : j < ys.length := by
      obtain ⟨q, _⟩ := List.getElem?_eq_some_iff.1 hu
      rw [cellsOf_len] at q; exact q
    rw [Addr.add_lit, hc j hj]
    unfold cellsOf at hu
    rw [List.getElem?_map, List.getElem?_eq_getElem hj] at hu
    rw [ix_lt hj]; exact hu
  · unfold cellsOf at hu
    obtain ⟨y, _, rfl⟩ := List.mem_map.1 hu
    rfl
  · intro v' w' h1 h2
    refine h v' w' ?_ h2
    unfold Own
    rw [Nat.zero_add, List.nil_append] at h1
    exact h1
theorem IntsAt.some {w : World} {a : Option Addr} {n c : Nat} {xs : List Int} (h : IntsAt w (.slice a n c) xs) (hp : 0 < xs.length) : ∃ b o, a = some ⟨b, o, none⟩ := by
  obtain ⟨a', c', e, _, _, _, h5⟩ := h
  obtain ⟨b, o, e2, _⟩ := h5 0 hp
  injection e with e1 _ _
  exact ⟨b, o, e1.trans e2⟩

end Go.Proofs.YtdbfpdhcaiiiaaaDoor
