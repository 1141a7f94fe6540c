/-
  Slices of rows that a call makes itself, row by row, and grows by append. No condition.
-/
import Derived.Test.YtimfggbfapbihaaSlice
namespace Go.Proofs.Ytimfggbfapbihaa
open Go.RowKit

/-- v is nil or an array of the call's own, from block base on, whose rows are the call's own too; it reads as xss. -/
def OwnL (w : World) (base : Nat) (v : Value) (xss : List (List Int)) : Prop :=
  ∃ V : Nat → Value, w.ownsRow base 37 1 v xss.length ((List.range xss.length).map V) ∧ ∀ i, i < xss.length → Own w base 3 (V i) (rx xss i)
theorem ownL_nil (w : World) (base : Nat) : OwnL w base (.slice none 0 0) [] := ⟨fun _ => undef, World.ownsRow_nil w base _ 1, fun i hi => absurd hi (by simp)⟩
theorem own_below {w w' : World} {base : Nat} {t : TypeId} {v : Value} {xs : List Int} (h : Own w base t v xs) (hb : Below w.heap.size w w') : Own w' base t v xs :=
  World.ownsRow.kept h (row := none) ⟨hb.os, hb.tape, hb.output, hb.size, fun j hj _ => hb.block j hj⟩ (by cases hv : v.ownBlock <;> simp)
theorem OwnL.below {w w' : World} {base : Nat} {v : Value} {xss : List (List Int)} (h : OwnL w base v xss) (hb : Below w.heap.size w w') : OwnL w' base v xss := by
  obtain ⟨V, h1, h2⟩ := h
  exact ⟨V, World.ownsRow.kept h1 (row := none) ⟨hb.os, hb.tape, hb.output, hb.size, fun j hj _ => hb.block j hj⟩ (by cases hv : v.ownBlock <;> simp), fun i hi => own_below (h2 i hi) hb⟩
theorem OwnL.setFar {w : World} {base : Nat} {v : Value} {xss : List (List Int)} (h : OwnL w base v xss) {a : Addr} (ha : a.block < base) (u : Value) : OwnL (w.setCell a u) base v xss := by
  obtain ⟨V, h1, h2⟩ := h
  exact ⟨V, ownsRow_setCell_below h1 ha u, fun i hi => (h2 i hi).setFar ha u⟩
theorem OwnL.shape {w : World} {base : Nat} {v : Value} {xss : List (List Int)} (h : OwnL w base v xss) : ∃ a c, v = .slice a xss.length c := by
  obtain ⟨V, h1, _⟩ := h
  rcases h1.2 with ⟨rfl, e⟩ | ⟨g, cap, cur, rfl, _⟩
  · rw [e]; exact ⟨_, _, rfl⟩
  · exact ⟨_, _, rfl⟩
theorem OwnL.block {w : World} {base : Nat} {v : Value} {xss : List (List Int)} (h : OwnL w base v xss) : ∀ k, v.ownBlock = some k → base ≤ k ∧ k < w.heap.size := by
  obtain ⟨V, h1, _⟩ := h
  exact World.ownsRow.lt h1
theorem OwnL.rowsAt {w : World} {base : Nat} {v : Value} {xss : List (List Int)} (h : OwnL w base v xss) (hl : xss.length ≤ 1000000000) (hr : ∀ i, i < xss.length → (rx xss i).length ≤ 1000000000) : RowsAt w v xss := by
  obtain ⟨V, h1, h2⟩ := h
  rcases h1.2 with ⟨rfl, hn⟩ | ⟨g, cap, cur, rfl, hg, hh, hc, hm, hs, ht⟩
  · obtain rfl : xss = [] := List.eq_nil_of_length_eq_zero hn
    exact ⟨none, 0, V, rfl, Nat.le_refl _, by omega, fun _ => rfl, fun i hi => absurd hi (by simp)⟩
  · unfold maxLen at hm
    refine ⟨some ⟨g, 0, none⟩, cap, V, rfl, hc, by omega, (fun h => by cases h), fun i hi => ⟨(h2 i hi).intsAt (by have := hr i hi; omega), g, 0, rfl, (Array.getElem?_eq_some_iff.1 hh).1, fun j hj => ?_⟩⟩
    rw [Nat.zero_add, cell_of_row w g j cur _ (0, 0) hh]
    have e : (cur.toList.take (xss.length * 1))[j]? = ((List.range xss.length).map V)[j]? := by rw [ht]
    rw [List.getElem?_take_of_lt (by omega)] at e
    rw [← Array.getElem?_toList, e]
    simp [hj]
theorem IntsAt.cellsAs {w w' : World} {v : Value} {xs : List Int} {B : Nat} (h : IntsAt w v xs) (hf : FarV B v) (hc : ∀ b o, B ≤ b → w'.cell? ⟨b, o, none⟩ = w.cell? ⟨b, o, none⟩) (hz : w.heap.size ≤ w'.heap.size) : IntsAt w' v xs := by
  obtain ⟨a, c, rfl, h2, h3, h4, h5⟩ := h
  refine ⟨a, c, rfl, h2, h3, h4, fun i hi => ?_⟩
  obtain ⟨b, o, rfl, hb, hc'⟩ := h5 i hi
  have hB : B ≤ b := hf
  exact ⟨b, o, rfl, Nat.lt_of_lt_of_le hb hz, fun j hj => by rw [hc b (o + j) hB]; exact hc' j hj⟩
theorem OwnL.rowsFar {w w' : World} {base : Nat} {v : Value} {xss : List (List Int)} (h : OwnL w base v xss) (hl : xss.length ≤ 1000000000) (hr : ∀ i, i < xss.length → (rx xss i).length ≤ 1000000000)
    (hc : ∀ b o, base ≤ b → w'.cell? ⟨b, o, none⟩ = w.cell? ⟨b, o, none⟩) (hz : w.heap.size ≤ w'.heap.size) : RowsAt w' v xss := by
  obtain ⟨V, h1, h2⟩ := h
  rcases h1.2 with ⟨rfl, hn⟩ | ⟨g, cap, cur, rfl, hg, hh, hcap, hm, hs, ht⟩
  · obtain rfl : xss = [] := List.eq_nil_of_length_eq_zero hn
    exact ⟨none, 0, V, rfl, Nat.le_refl _, by omega, fun _ => rfl, fun i hi => absurd hi (by simp)⟩
  · unfold maxLen at hm
    refine ⟨some ⟨g, 0, none⟩, cap, V, rfl, hcap, by omega, (fun h => by cases h), fun i hi => ⟨((h2 i hi).intsAt (by have := hr i hi; omega)).cellsAs ((h2 i hi).far (Nat.le_refl _)) hc hz, g, 0, rfl, Nat.lt_of_lt_of_le (Array.getElem?_eq_some_iff.1 hh).1 hz, fun j hj => ?_⟩⟩
    rw [hc g _ hg, Nat.zero_add, cell_of_row w g j cur _ (0, 0) hh]
    have e : (cur.toList.take (xss.length * 1))[j]? = ((List.range xss.length).map V)[j]? := by rw [ht]
    rw [List.getElem?_take_of_lt (by omega)] at e
    rw [← Array.getElem?_toList, e]
    simp [hj]
/-- Two rows of different element types lie in different blocks. -/
theorem own_apart {w : World} {base base' : Nat} {t t' : TypeId} {s s' : Nat} {v v' : Value} {n n' : Nat} {xs xs' : List Value} (ht : t ≠ t') (h : w.ownsRow base t s v n xs) (h' : w.ownsRow base' t' s' v' n' xs') : v.ownBlock = none ∨ v.ownBlock ≠ v'.ownBlock := by
  rcases h.2 with ⟨rfl, _⟩ | ⟨g, cap, cur, rfl, hg, hh, _⟩
  · exact .inl rfl
  · right
    rcases h'.2 with ⟨rfl, _⟩ | ⟨g', cap', cur', rfl, hg', hh', _⟩
    · simp [Value.ownBlock]
    · simp only [Value.ownBlock, ne_eq, Option.some.injEq]
      intro e
      subst e
      rw [hh] at hh'
      injection hh' with e
      injection e with _ e
      exact ht e
theorem info_list : (Try.prog.info? 37).map (fun i => (i.zero, i.size, i.bytes)) = some (some (.slice none 0 0), 1, 24) := by kernel_rfl
theorem own_one {w : World} {base : Nat} {t : TypeId} {v : Value} {xs : List Int} (h : Own w base t v xs) : v.oneCell' = true := by
  rcases h.2 with ⟨rfl, _⟩ | ⟨g, cap, cur, rfl, _⟩ <;> rfl
theorem rx_snoc (xss : List (List Int)) (ys : List Int) {i : Nat} : rx (xss ++ [ys]) i = if i < xss.length then rx xss i else if i = xss.length then ys else [] := by
  by_cases h : i < xss.length
  · rw [if_pos h, rx_lt (by simp; omega), rx_lt h, List.getElem_append_left h]
  · rw [if_neg h]
    by_cases h2 : i = xss.length
    · rw [if_pos h2]; subst h2; simp [rx]
    · rw [if_neg h2]; unfold rx; rw [List.getD_eq_getElem?_getD, List.getElem?_eq_none (by simp; omega)]; rfl
set_option maxRecDepth 100000 in
/-- append of one row of the call's own to rows of the call's own. -/
theorem app_list {ops : Array Oper} {rest : List Oper} {o : Oper} {a : Act} {w : World} {Q : Exit → Act → World → Prop} (hgd : o.guard = none) (s x : Operand)
    (ho : o.op = .call { callee := .builtin .append, args := #[s, x], argTypes := #[22, 22] }) {base : Nat} {v : Value} {xss : List (List Int)} (hs : a.eval s = v) (hown : OwnL w base v xss)
    (g : Nat) {y : Value} {ys : List Int} (hy : Own w base 3 y ys) (hx : a.eval x = .slice (some ⟨g, 0, none⟩) 1 1) (hc : w.cell? ⟨g, 0, none⟩ = some y) (hl : xss.length < 1000000000) (hb : base ≤ w.heap.size)
    (h : ∀ v' w', OwnL w' base v' (xss ++ [ys]) → w.grownBy w' v.ownBlock → wpList Try.prog ops Q rest (a.put o.dst v') w') : wpList Try.prog ops Q (o :: rest) a w := by
  obtain ⟨i0, hi0, hz0, hz1, hz2⟩ := info_parts info_list
  obtain ⟨V, h1, h2⟩ := hown
  refine wpList_append_own w hgd s x 22 ho base 37 i0 _ 1 24 Try.underlying22 hi0 hz0 hz1 hz2 rfl (by omega) v xss.length _ hs h1 ⟨g, 0, none⟩ 1 1 [y] hx rfl (news_one hc) (fun u hu => by simp at hu; subst hu; exact own_one hy)
    (by unfold maxLen; omega) (by omega) hb ?_
  intro v' w' q1 q2 _
  have kept : ∀ {u : Value} {zs : List Int}, Own w base 3 u zs → Own w' base 3 u zs := fun hu => World.ownsRow.kept hu q2 (own_apart (by decide) hu h1)
  refine h v' w' ⟨fun i => if i < xss.length then V i else y, ?_, fun i hi => ?_⟩ q2
  · rw [List.length_append]
    have e : (List.range (xss.length + [ys].length)).map (fun i => if i < xss.length then V i else y) = (List.range xss.length).map V ++ [y] := by
      rw [List.length_singleton, List.range_succ, List.map_append]
      congr 1
      · apply List.map_congr_left
        intro i hi
        rw [if_pos (List.mem_range.1 hi)]
      · simp
    rw [e]; exact q1
  · rw [List.length_append, List.length_singleton] at hi
    rw [rx_snoc]
    by_cases e : i < xss.length
    · rw [if_pos e]; simp only [if_pos e]; exact kept (h2 i e)
    · rw [if_neg e, if_pos (by omega)]; simp only [if_neg e]; exact kept hy
end Go.Proofs.Ytimfggbfapbihaa
