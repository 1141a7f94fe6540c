/-
  Contract: a system's design: its points, its blocks in order. No condition.
-/
import Derived.Test.YtimfggbfapbihaaTAdd
namespace Go.Proofs.Ytimfggbfapbihaa
open Go.RowKit

theorem heap_set {w : World} {g : Nat} {c : Array Value} {e : TypeId} {fr : Nat × Nat} (hb : w.heap[g]? = some (.cells c e fr)) (o : Nat) (u : Value) : ∃ c', (w.setCell ⟨g, o, none⟩ u).heap[g]? = some (.cells c' e fr) :=
  ⟨c.setIfInBounds o u, by rw [Sort.setCell_eq]; simp [Sort.mapBlock, Array.getElem?_modify, hb, Sort.onCells]⟩
theorem grownBy_set (w : World) (g o : Nat) (u : Value) : w.grownBy (w.setCell ⟨g, o, none⟩ u) (some g) := by
  rw [Sort.setCell_eq]
  refine ⟨rfl, rfl, rfl, by simp [Sort.mapBlock], fun k hk hne => ?_⟩
  have : g ≠ k := fun e => hne (by rw [e])
  simp [Sort.mapBlock, Array.getElem?_modify, this]
theorem apart_of {w : World} {base g : Nat} {t e : TypeId} {s n : Nat} {v : Value} {xs : List Value} {c : Array Value} {fr : Nat × Nat} (h : w.ownsRow base t s v n xs) (hg : w.heap[g]? = some (.cells c e fr)) (he : e ≠ t) : v.ownBlock = none ∨ v.ownBlock ≠ some g := by
  rcases h.2 with ⟨rfl, _⟩ | ⟨g', cap, cur, rfl, _, hh, _⟩
  · exact .inl rfl
  · right
    simp only [Value.ownBlock, ne_eq, Option.some.injEq]
    intro e1
    subst e1
    rw [hg] at hh
    injection hh with e2
    injection e2 with _ e2
    exact he e2
theorem OwnL.setApart {w : World} {base g : Nat} {v : Value} {xss : List (List Int)} {c : Array Value} {e : TypeId} {fr : Nat × Nat} (h : OwnL w base v xss) (hg : w.heap[g]? = some (.cells c e fr)) (h1 : e ≠ 37) (h2 : e ≠ 3) (o : Nat) (u : Value) : OwnL (w.setCell ⟨g, o, none⟩ u) base v xss := by
  obtain ⟨V, q1, q2⟩ := h
  exact ⟨V, World.ownsRow.kept q1 (grownBy_set w g o u) (apart_of q1 hg h1), fun i hi => World.ownsRow.kept (q2 i hi) (grownBy_set w g o u) (apart_of (q2 i hi) hg h2)⟩
/-- A design is handed back, whose rows lie from block B on. -/
def DgPost (p : Int) (yss : List (List Int)) (B : Nat) (w : World) (e : Ending) (w' : World) : Prop := ∃ u, e = .returned (.agg #[.int .i64 p, u]) ∧ KeepT yss u (B + 1) w' ∧ Below B w w'
theorem KeepT.rows {yss : List (List Int)} {u : Value} {B : Nat} {w : World} (h : KeepT yss u B w) : RowsAt w u yss := h w (fun _ _ _ => rfl) (Nat.le_refl _)

/-- While a design is made: the result (block r), the system (block b). -/
structure DgRel (w wr : World) (r b : Nat) (p : Int) (v : Value) (yss : List (List Int)) : Prop where
  sys : Arr wr b 2 (fun j => if j = 0 then v else .int .i64 p)
  own : OwnL wr (b + 1) v yss
  res : Arr wr r 2 (fun j => if j = 0 then .int .i64 0 else .slice none 0 0)
  typ : ∃ c fr, wr.heap[r]? = some (.cells c 24 fr)
  bel : Below b w wr
  le : b ≤ r
theorem DgRel.drewN {w wr : World} {r b : Nat} {p : Int} {v : Value} {yss : List (List Int)} (h : DgRel w wr r b p v yss) (m : Nat) : DgRel w (wr.drewN m) r b p v yss :=
  ⟨h.sys.below (below_D _ _), h.own.below (below_D _ _), h.res.below (below_D _ _), h.typ, below_drewN h.bel m, h.le⟩
theorem DgRel.start {w w' : World} {b : Nat} {p : Int} {v : Value} {xss yss : List (List Int)} (h : Sys w b p v xss) (hO : OwnL w' (b + 1) v yss) (hg : (w.alloc (.cells #[.int .i64 0, .slice none 0 0] 24)).grownBy w' v.ownBlock) : DgRel w w' w.heap.size b p v yss := by
  have hbl : ∀ k, v.ownBlock = some k → b + 1 ≤ k ∧ k < w.heap.size := h.own.block
  have hsz := h.size
  have hne : some w.heap.size ≠ v.ownBlock := fun e => by have := hbl _ e.symm; omega
  have hs2 : Sys (w.alloc (.cells #[.int .i64 0, .slice none 0 0] 24)) b p v xss := h.next (below_box _ _)
  refine ⟨hs2.kept hg, hO, ?_, ⟨_, _, (hg.block w.heap.size (by simp) hne).trans (heap_alloc_new w _)⟩, ((Below.refl b w).alloc (by omega) _).grown hg (by rw [World.size_alloc]; omega) (fun k hk => by have := hbl k hk; omega), by omega⟩
  exact (pair_new w _ _ 24 _ rfl).kept (fun o => hg.cell_far ⟨w.heap.size, o, none⟩ (by simp) hne) (fun o => hg.frozen_far ⟨w.heap.size, o, none⟩ (by simp) hne) hg.size
theorem DgRel.cells {w wr : World} {r b : Nat} {p : Int} {v : Value} {yss : List (List Int)} (h : DgRel w wr r b p v yss) :
    wr.cell? ⟨b, 0, none⟩ = some v ∧ wr.cell? ⟨b, 1, none⟩ = some (.int .i64 p) ∧ wr.cell? ⟨r, 0, none⟩ = some (.int .i64 0) ∧ wr.cell? ⟨r, 1, none⟩ = some (.slice none 0 0) ∧ wr.frozen? ⟨r, 0, none⟩ = false ∧ wr.frozen? ⟨r, 1, none⟩ = false :=
  ⟨h.sys.cell (show 0 < 2 by omega), h.sys.cell (show 1 < 2 by omega), h.res.cell (show 0 < 2 by omega), h.res.cell (show 1 < 2 by omega), h.res.free (show 0 < 2 by omega), h.res.free (show 1 < 2 by omega)⟩
theorem DgRel.last {w wr : World} {r b : Nat} {p : Int} {v : Value} {yss : List (List Int)} (h : DgRel w wr r b p v yss) : Arr ((wr.setCell ⟨r, 0, none⟩ (.int .i64 p)).setCell ⟨r, 1, none⟩ v) r 2 (fun j => if j = 0 then .int .i64 p else v) :=
  ((h.res.set (show 0 < 2 by omega) (.int .i64 p)).set (show 1 < 2 by omega) v).congr fun j hj => by
    rcases j with _ | _ | j
    · rfl
    · rfl
    · omega
theorem DgRel.done {w wr : World} {r b : Nat} {p : Int} {v : Value} {yss : List (List Int)} (h : DgRel w wr r b p v yss) (hl : yss.length ≤ 1000000000) (hr : ∀ i, i < yss.length → (rx yss i).length ≤ 1000000000) :
    DgPost p yss b w (.returned (.agg ((List.range 2).map (fun j => if j = 0 then Value.int .i64 p else v)).toArray)) ((wr.setCell ⟨r, 0, none⟩ (.int .i64 p)).setCell ⟨r, 1, none⟩ v) := by
  obtain ⟨c, fr, ht⟩ := h.typ
  obtain ⟨c', ht'⟩ := heap_set ht 0 (.int .i64 p)
  have hle := h.le
  have hO := (h.own.setApart ht (by decide) (by decide) 0 (.int .i64 p)).setApart ht' (by decide) (by decide) 1 v
  exact ⟨v, rfl, fun w'' hc hz => hO.rowsFar hl hr hc hz, (h.bel.setCell (by show _ ≤ r; omega) _).setCell (by show _ ≤ r; omega) _⟩

set_option maxRecDepth 100000 in
set_option maxHeartbeats 2000000 in
theorem design_any (b : Nat) (p : Int) (v : Value) (xss : List (List Int)) (w : World) (h : Sys w b p v xss) (hl : xss.length < 1000000) (h3 : ∀ i, i < xss.length → (rx xss i).length = 3) :
    Calls Try.prog 9 #[.pointer (some ⟨b, 0, none⟩)] w (DgPost p (sortR xss) b w) := by
  have HS := Lib.hid h
  have hsz := h.size
  have HSo := Lib.hid (sortFunc_own (h.own.below (below_box w (.cells #[.int .i64 0, .slice none 0 0] 24))) (by omega) h3)
  have H3 : Hid (∀ i, i < (sortR xss).length → (rx (sortR xss) i).length ≤ 1000000000) := fun i hi => by
    obtain ⟨j, hj, e⟩ := List.getElem_of_mem ((sortR_perm xss).mem_iff.1 (rx_mem hi))
    rw [← e, ← rx_lt hj, h3 j hj]; omega
  have hsl := sortR_len xss
  obtain ⟨c0, c1⟩ := (h.next (below_box w (.cells #[.int .i64 0, .slice none 0 0] 24))).cells
  obtain ⟨va, vc, rfl⟩ := h.own.shape
  have hne : ¬ b = w.heap.size := by omega
  clear h h3
  generalize sortR xss = yss at *
  go_enter Try.func9, Try.ntmps9
  go_wp2_with fail
  refine (HSo.out).mono ?_
  rintro e w2 ⟨rfl, hown, hg⟩
  have HR := Lib.hid (DgRel.start HS.out hown hg)
  obtain ⟨d0, d1, d2, d3, d4, d5⟩ := HR.out.cells
  clear hown hg HSo c0 c1
  go_wp2_with fail
  go_region
  all_goals
    go_wp2_with fail
    exact bodyPost_ret (results_arr1 (p := 2) rfl (HR.out.drewN _).last Try.underlying24 rfl (by kernel_rfl) rfl) rfl ((HR.out.drewN _).done (by omega) H3.out)
end Go.Proofs.Ytimfggbfapbihaa
