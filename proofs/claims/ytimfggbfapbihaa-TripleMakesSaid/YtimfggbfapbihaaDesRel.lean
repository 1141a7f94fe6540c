/-
  What stands in memory while a design is built row by row; the plain rows. No condition.
-/
import Derived.Test.YtimfggbfapbihaaOwnL
import Derived.Test.YtimfggbfapbihaaLists
import Derived.Test.YtimfggbfapbihaaDes
import Derived.Test.YtimfggbfapbihaaLies
import Derived.Test.YtimfggbfapbihaaTab
namespace Go.Proofs.Ytimfggbfapbihaa
open Go.RowKit

/-- The numbers below m that have a property. -/
def pickL (p : Nat → Bool) : Nat → List Int
  | 0 => []
  | m + 1 => if p m then pickL p m ++ [(m : Int)] else pickL p m
def rowsTo (F : Nat → List Int) : Nat → List (List Int)
  | 0 => []
  | k + 1 => rowsTo F k ++ [F k]
theorem pickL_yes {p : Nat → Bool} {m : Nat} (h : p m = true) : pickL p (m + 1) = pickL p m ++ [(m : Int)] := by rw [pickL, if_pos h]
theorem pickL_no {p : Nat → Bool} {m : Nat} (h : p m = false) : pickL p (m + 1) = pickL p m := by rw [pickL, h]; rfl
theorem pickL_len (p : Nat → Bool) : ∀ m, (pickL p m).length ≤ m
  | 0 => Nat.le_refl _
  | m + 1 => by
    have := pickL_len p m
    cases e : p m
    · rw [pickL_no e]; omega
    · rw [pickL_yes e, List.length_append, List.length_singleton]; omega
theorem mem_pickL {p : Nat → Bool} {x : Int} : ∀ {m : Nat}, x ∈ pickL p m ↔ ∃ j, j < m ∧ p j = true ∧ x = (j : Int)
  | 0 => by simp [pickL]
  | m + 1 => by
    cases e : p m
    · rw [pickL_no e, mem_pickL]
      constructor
      · rintro ⟨j, h1, h2, h3⟩; exact ⟨j, by omega, h2, h3⟩
      · rintro ⟨j, h1, h2, h3⟩
        by_cases ej : j = m
        · subst ej; rw [e] at h2; cases h2
        · exact ⟨j, by omega, h2, h3⟩
    · rw [pickL_yes e, List.mem_append, mem_pickL, List.mem_singleton]
      constructor
      · rintro (⟨j, h1, h2, h3⟩ | h)
        · exact ⟨j, by omega, h2, h3⟩
        · exact ⟨m, by omega, e, h⟩
      · rintro ⟨j, h1, h2, h3⟩
        by_cases ej : j = m
        · subst ej; exact .inr h3
        · exact .inl ⟨j, by omega, h2, h3⟩
theorem pickL_congr {p q : Nat → Bool} : ∀ {m : Nat}, (∀ j, j < m → p j = q j) → pickL p m = pickL q m
  | 0, _ => rfl
  | m + 1, h => by
    rw [pickL, pickL, pickL_congr (m := m) fun j hj => h j (by omega), h m (by omega)]
theorem rowsTo_len (F : Nat → List Int) : ∀ m, (rowsTo F m).length = m
  | 0 => rfl
  | m + 1 => by rw [rowsTo, List.length_append, rowsTo_len F m]; rfl
theorem rowsTo_rx (F : Nat → List Int) {i : Nat} : ∀ {m : Nat}, i < m → rx (rowsTo F m) i = F i
  | 0, h => by omega
  | m + 1, h => by
    rw [rowsTo, rx_snoc, rowsTo_len]
    by_cases e : i < m
    · rw [if_pos e]; exact rowsTo_rx F e
    · rw [if_neg e, if_pos (by omega), show i = m by omega]
theorem rowsTo_congr {F G : Nat → List Int} : ∀ {m : Nat}, (∀ i, i < m → F i = G i) → rowsTo F m = rowsTo G m
  | 0, _ => rfl
  | m + 1, h => by rw [rowsTo, rowsTo, rowsTo_congr (m := m) fun i hi => h i (by omega), h m (by omega)]

theorem pair_new (w : World) (p q : Value) (t : TypeId) (b : Nat) (hb : b = w.heap.size) : Arr (w.alloc (.cells #[p, q] t)) b 2 (fun j => if j = 0 then p else q) := by
  subst hb
  refine ⟨by simp, fun j hj => ⟨?_, World.frozen?_alloc_new _ _ _ _⟩⟩
  rw [World.cell?_alloc_new]
  rcases j with _ | _ | j
  · rfl
  · rfl
  · omega
theorem results_pairT {P : Program} {fn : Func} {p u : Tmp} {ty : TypeId} (h : fn.results = #[.cell p ty, .tmp u]) {tmps : Array Value} {w : World} {b n : Nat} {f : Nat → Value} (hA : Arr w b n f) {d : TypeDesc} (hu : P.underlying ty = some d)
    (hd : (match d with | .struct _ | .array _ _ => true | _ => false) = true) (hi : (P.info? ty).map (·.size) = some n) (hp : tmps.getD p undef = .pointer (some ⟨b, 0, none⟩)) :
    (results fn tmps).run P w = .ok (.tuple #[.agg ((List.range n).map f).toArray, tmps.getD u undef]) w := by
  rw [results_cell_tmp h, hp]
  have : (asAddr (.pointer (some ⟨b, 0, none⟩))).run P w = .ok ⟨b, 0, none⟩ w := rfl
  rw [this]
  simp only [Result.andThen_ok]
  rw [loadVar_arr hA hu hd hi]
  rfl

/-- The argument, boxed; the result, still empty; what is built (block bo). -/
structure DesRel (w wr : World) (bo : Nat) (n : Int) (dv : Value) (p : Int) (v : Value) (yss : List (List Int)) : Prop where
  box : Arr wr w.heap.size 2 (fun j => if j = 0 then .int .i64 n else dv)
  res : Arr wr (w.heap.size + 1) 2 (fun j => if j = 0 then .int .i64 0 else .slice none 0 0)
  out : Arr wr bo 2 (fun j => if j = 0 then .int .i64 p else v)
  own : OwnL wr (bo + 1) v yss
  lo : w.heap.size + 1 < bo
  bel : Below w.heap.size w wr
theorem DesRel.next {w wr w' : World} {bo : Nat} {n : Int} {dv : Value} {p : Int} {v : Value} {yss : List (List Int)} (h : DesRel w wr bo n dv p v yss) (hb : Below wr.heap.size wr w') : DesRel w w' bo n dv p v yss :=
  ⟨h.box.below hb, h.res.below hb, h.out.below hb, h.own.below hb, h.lo, belowTrans h.bel hb⟩
theorem DesRel.size {w wr : World} {bo : Nat} {n : Int} {dv : Value} {p : Int} {v : Value} {yss : List (List Int)} (h : DesRel w wr bo n dv p v yss) : bo + 1 ≤ wr.heap.size := h.out.lt
theorem DesRel.push {w w1 w2 : World} {bo : Nat} {n : Int} {dv : Value} {p : Int} {v v' : Value} {yss zss : List (List Int)} (h : DesRel w w1 bo n dv p v yss) (hO : OwnL w2 (bo + 1) v' zss) (hg : w1.grownBy w2 v.ownBlock) :
    DesRel w (w2.setCell ⟨bo, 1, none⟩ v') bo n dv p v' zss := by
  have hlo := h.lo
  have hbl : ∀ k, v.ownBlock = some k → bo + 1 ≤ k := fun k hk => (h.own.block k hk).1
  have hsz := h.size
  have kp : ∀ {b : Nat} {f : Nat → Value}, b < bo + 1 → Arr w1 b 2 f → Arr w2 b 2 f := fun {b f} hb hA =>
    hA.kept (fun o => hg.cell_far ⟨b, o, none⟩ (Nat.lt_of_lt_of_le hb hsz) (fun e => by have := hbl b e.symm; omega)) (fun o => hg.frozen_far ⟨b, o, none⟩ (Nat.lt_of_lt_of_le hb hsz) (fun e => by have := hbl b e.symm; omega)) hg.size
  refine ⟨(kp (by omega) h.box).setOther (by show bo ≠ _; omega) _, (kp (by omega) h.res).setOther (by show bo ≠ _; omega) _, ?_, hO.setFar (by show bo < _; omega) _, hlo, (h.bel.grown hg (by omega) (fun k hk => by have := hbl k hk; omega)).setCell (by show _ ≤ bo; omega) _⟩
  refine ((kp (by omega) h.out).set (show 1 < 2 by omega) v').congr fun j hj => ?_
  rcases j with _ | _ | j
  · rfl
  · rfl
  · omega
theorem DesRel.spot {w w1 w2 : World} {bo : Nat} {n : Int} {dv : Value} {p : Int} {v : Value} {yss : List (List Int)} (h : DesRel w w1 bo n dv p v yss) (hg : w1.grownBy w2 v.ownBlock) :
    w2.cell? ⟨bo, 1, none⟩ = some v ∧ w2.frozen? ⟨bo, 1, none⟩ = false := by
  have hbl : ∀ k, v.ownBlock = some k → bo + 1 ≤ k := fun k hk => (h.own.block k hk).1
  have hsz := h.size
  have hne : some bo ≠ v.ownBlock := fun e => by have := hbl bo e.symm; omega
  exact ⟨(hg.cell_far ⟨bo, 1, none⟩ hsz hne).trans (h.out.cell (show 1 < 2 by omega)), (hg.frozen_far ⟨bo, 1, none⟩ hsz hne).trans (h.out.free (show 1 < 2 by omega))⟩
/-- What is built, without a call in between. -/
theorem DesRel.new (w : World) (n : Int) (dv : Value) (p : Int) (t : TypeId) :
    DesRel w (((w.alloc (.cells #[.int .i64 n, dv] t)).alloc (.cells #[.int .i64 0, .slice none 0 0] t)).alloc (.cells #[.int .i64 p, .slice none 0 0] t)) (w.heap.size + 1 + 1) n dv p (.slice none 0 0) [] :=
  ⟨((pair_new w _ _ _ _ rfl).alloc _).alloc _, (pair_new _ _ _ _ _ (by simp)).alloc _, pair_new _ _ _ _ _ (by simp), ownL_nil _ _, by omega,
    ((below_box w _).trans ((below_box _ _).mono (by simp))).trans ((below_box _ _).mono (by simp; omega))⟩
/-- The same, behind a call. -/
theorem DesRel.late {w w1 : World} {n : Int} {dv : Value} {t : TypeId} (hb : Below ((w.alloc (.cells #[.int .i64 n, dv] t)).alloc (.cells #[.int .i64 0, .slice none 0 0] t)).heap.size ((w.alloc (.cells #[.int .i64 n, dv] t)).alloc (.cells #[.int .i64 0, .slice none 0 0] t)) w1) (p : Int) :
    DesRel w (w1.alloc (.cells #[.int .i64 p, .slice none 0 0] t)) w1.heap.size n dv p (.slice none 0 0) [] := by
  have hz := hb.size
  simp only [World.size_alloc] at hz
  exact ⟨(((pair_new w _ _ _ _ rfl).alloc _).below hb).alloc _, ((pair_new _ _ _ _ _ (by simp)).below hb).alloc _, pair_new _ _ _ _ _ rfl, ownL_nil _ _, by omega,
    ((((below_box w _).trans ((below_box _ _).mono (by simp))).trans (hb.mono (by simp; omega))).trans ((below_box _ _).mono (by omega)))⟩
/-- What is handed back. -/
def DesPost (n : Int) (yss : List (List Int)) (w : World) (e : Ending) (w' : World) : Prop := ∃ v, e = .returned (.agg #[.int .i64 n, v]) ∧ RowsAt w' v yss ∧ Below w.heap.size w w'
def KeepT (yss : List (List Int)) (v : Value) (B : Nat) (w' : World) : Prop := ∀ w'', (∀ b o, B ≤ b → w''.cell? ⟨b, o, none⟩ = w'.cell? ⟨b, o, none⟩) → w'.heap.size ≤ w''.heap.size → RowsAt w'' v yss
def DesPostT (n : Int) (yss : List (List Int)) (e0 : Int) (w : World) (e : Ending) (w' : World) : Prop := ∃ v, e = .returned (.tuple #[.agg #[.int .i64 n, v], .int .i64 e0]) ∧ RowsAt w' v yss ∧ Below w.heap.size w w' ∧ KeepT yss v w.heap.size w'
theorem rows_nil (w : World) : RowsAt w (.slice none 0 0) [] := ⟨none, 0, fun _ => undef, rfl, Nat.le_refl _, by omega, fun _ => rfl, fun i hi => absurd hi (by simp)⟩
theorem DesRel.fin {w wr : World} {bo : Nat} {n : Int} {dv : Value} {p : Int} {v : Value} {yss : List (List Int)} (h : DesRel w wr bo n dv p v yss) (hl : yss.length ≤ 1000000000) (hr : ∀ i, i < yss.length → (rx yss i).length ≤ 1000000000) :
    RowsAt ((wr.setCell ⟨w.heap.size + 1, 0, none⟩ (.int .i64 p)).setCell ⟨w.heap.size + 1, 1, none⟩ v) v yss ∧ Below w.heap.size w ((wr.setCell ⟨w.heap.size + 1, 0, none⟩ (.int .i64 p)).setCell ⟨w.heap.size + 1, 1, none⟩ v) := by
  have hlo := h.lo
  exact ⟨((h.own.setFar (by show w.heap.size + 1 < _; omega) _).setFar (by show w.heap.size + 1 < _; omega) _).rowsAt hl hr, (h.bel.setCell (by show _ ≤ w.heap.size + 1; omega) _).setCell (by show _ ≤ w.heap.size + 1; omega) _⟩
theorem DesRel.last {w wr : World} {bo : Nat} {n : Int} {dv : Value} {p : Int} {v : Value} {yss : List (List Int)} (h : DesRel w wr bo n dv p v yss) :
    Arr ((wr.setCell ⟨w.heap.size + 1, 0, none⟩ (.int .i64 p)).setCell ⟨w.heap.size + 1, 1, none⟩ v) (w.heap.size + 1) 2 (fun j => if j = 0 then .int .i64 p else v) :=
  ((h.res.set (show 0 < 2 by omega) (.int .i64 p)).set (show 1 < 2 by omega) v).congr fun j hj => by
    rcases j with _ | _ | j
    · rfl
    · rfl
    · omega
theorem DesRel.done {w wr : World} {bo : Nat} {n : Int} {dv : Value} {p : Int} {v : Value} {yss : List (List Int)} (h : DesRel w wr bo n dv p v yss) (hl : yss.length ≤ 1000000000) (hr : ∀ i, i < yss.length → (rx yss i).length ≤ 1000000000) :
    DesPost p yss w (.returned (.agg ((List.range 2).map (fun j => if j = 0 then Value.int .i64 p else v)).toArray)) ((wr.setCell ⟨w.heap.size + 1, 0, none⟩ (.int .i64 p)).setCell ⟨w.heap.size + 1, 1, none⟩ v) :=
  ⟨v, rfl, h.fin hl hr⟩
theorem DesRel.doneT {w wr : World} {bo : Nat} {n : Int} {dv : Value} {p : Int} {v : Value} {yss : List (List Int)} (h : DesRel w wr bo n dv p v yss) (hl : yss.length ≤ 1000000000) (hr : ∀ i, i < yss.length → (rx yss i).length ≤ 1000000000) (e0 : Int) :
    DesPostT p yss e0 w (.returned (.tuple #[.agg ((List.range 2).map (fun j => if j = 0 then Value.int .i64 p else v)).toArray, .int .i64 e0])) ((wr.setCell ⟨w.heap.size + 1, 0, none⟩ (.int .i64 p)).setCell ⟨w.heap.size + 1, 1, none⟩ v) := by
  have hlo := h.lo
  exact ⟨v, rfl, (h.fin hl hr).1, (h.fin hl hr).2, fun w'' hc hz => ((h.own.setFar (by show w.heap.size + 1 < _; omega) _).setFar (by show w.heap.size + 1 < _; omega) _).rowsFar hl hr (fun b o hb => hc b o (by omega)) hz⟩
/-- What is handed back with a fault. -/
theorem desT_new (w : World) (n : Int) (dv : Value) (t : TypeId) (e0 : Int) :
    DesPostT 0 [] e0 w (.returned (.tuple #[.agg ((List.range 2).map (fun j => if j = 0 then Value.int .i64 0 else .slice none 0 0)).toArray, .int .i64 e0])) ((w.alloc (.cells #[.int .i64 n, dv] t)).alloc (.cells #[.int .i64 0, .slice none 0 0] t)) :=
  ⟨.slice none 0 0, rfl, rows_nil _, belowTrans (below_box w _) (below_box _ _), fun _ _ _ => rows_nil _⟩
theorem arr_new (w : World) (n : Int) (dv : Value) (t : TypeId) : Arr ((w.alloc (.cells #[.int .i64 n, dv] t)).alloc (.cells #[.int .i64 0, .slice none 0 0] t)) (w.heap.size + 1) 2 (fun j => if j = 0 then Value.int .i64 0 else .slice none 0 0) :=
  pair_new _ _ _ _ _ (by simp)
/-- Some of the rows. -/
def filtTo (c : Nat → Bool) (F : Nat → List Int) : Nat → List (List Int)
  | 0 => []
  | k + 1 => if c k then filtTo c F k ++ [F k] else filtTo c F k
theorem filtTo_yes {c : Nat → Bool} {F : Nat → List Int} {k : Nat} (h : c k = true) : filtTo c F (k + 1) = filtTo c F k ++ [F k] := by rw [filtTo, if_pos h]
theorem filtTo_no {c : Nat → Bool} {F : Nat → List Int} {k : Nat} (h : c k = false) : filtTo c F (k + 1) = filtTo c F k := by rw [filtTo, h]; rfl
theorem filtTo_len (c : Nat → Bool) (F : Nat → List Int) : ∀ k, (filtTo c F k).length ≤ k
  | 0 => Nat.le_refl _
  | k + 1 => by
    have := filtTo_len c F k
    cases e : c k
    · rw [filtTo_no e]; omega
    · rw [filtTo_yes e, List.length_append, List.length_singleton]; omega
theorem filtTo_mem {c : Nat → Bool} {F : Nat → List Int} {l : List Int} : ∀ {k : Nat}, l ∈ filtTo c F k → ∃ i, i < k ∧ c i = true ∧ l = F i
  | 0, h => by simp [filtTo] at h
  | k + 1, h => by
    cases e : c k
    · rw [filtTo_no e] at h
      obtain ⟨i, h1, h2, h3⟩ := filtTo_mem h
      exact ⟨i, by omega, h2, h3⟩
    · rw [filtTo_yes e, List.mem_append, List.mem_singleton] at h
      rcases h with h | h
      · obtain ⟨i, h1, h2, h3⟩ := filtTo_mem h
        exact ⟨i, by omega, h2, h3⟩
      · exact ⟨k, by omega, e, h⟩
theorem filtTo_congr {c d : Nat → Bool} {F G : Nat → List Int} : ∀ {m : Nat}, (∀ i, i < m → c i = d i) → (∀ i, i < m → c i = true → F i = G i) → filtTo c F m = filtTo d G m
  | 0, _, _ => rfl
  | m + 1, h, g => by
    have ih := filtTo_congr (m := m) (fun i hi => h i (by omega)) (fun i hi => g i (by omega))
    rw [filtTo, filtTo, ih, ← h m (by omega)]
    cases e : c m
    · rfl
    · rw [g m (by omega) e]
end Go.Proofs.Ytimfggbfapbihaa
