/-
  Contract: a lister's add: a block of three points, sorted, behind the blocks. No condition.
-/
import Derived.Test.YtimfggbfapbihaaTSortF
import Derived.Test.YtimfggbfapbihaaDesRel
namespace Go.Proofs.Ytimfggbfapbihaa
open Go.RowKit

/-- What a system holds: its blocks, its points. -/
structure Sys (w : World) (b : Nat) (p : Int) (v : Value) (xss : List (List Int)) : Prop where
  sys : Arr w b 2 (fun j => if j = 0 then v else .int .i64 p)
  own : OwnL w (b + 1) v xss
theorem Sys.size {w : World} {b : Nat} {p : Int} {v : Value} {xss : List (List Int)} (h : Sys w b p v xss) : b + 1 ≤ w.heap.size := h.sys.lt
theorem Sys.next {w w' : World} {b : Nat} {p : Int} {v : Value} {xss : List (List Int)} (h : Sys w b p v xss) (hb : Below w.heap.size w w') : Sys w' b p v xss := ⟨h.sys.below hb, h.own.below hb⟩
theorem Sys.cells {w : World} {b : Nat} {p : Int} {v : Value} {xss : List (List Int)} (h : Sys w b p v xss) : w.cell? ⟨b, 0, none⟩ = some v ∧ w.cell? ⟨b, 1, none⟩ = some (.int .i64 p) :=
  ⟨h.sys.cell (show 0 < 2 by omega), h.sys.cell (show 1 < 2 by omega)⟩
theorem Sys.kept {w1 w2 : World} {b : Nat} {p : Int} {v : Value} {xss : List (List Int)} (h : Sys w1 b p v xss) (hg : w1.grownBy w2 v.ownBlock) : Arr w2 b 2 (fun j => if j = 0 then v else .int .i64 p) := by
  have hbl : ∀ k, v.ownBlock = some k → b + 1 ≤ k := fun k hk => (h.own.block k hk).1
  have hsz := h.size
  exact h.sys.kept (fun o => hg.cell_far ⟨b, o, none⟩ hsz (fun e => by have := hbl b e.symm; omega)) (fun o => hg.frozen_far ⟨b, o, none⟩ hsz (fun e => by have := hbl b e.symm; omega)) hg.size
theorem Sys.push {w1 w2 : World} {b : Nat} {p : Int} {v v' : Value} {xss yss : List (List Int)} (h : Sys w1 b p v xss) (hO : OwnL w2 (b + 1) v' yss) (hg : w1.grownBy w2 v.ownBlock) : Sys (w2.setCell ⟨b, 0, none⟩ v') b p v' yss :=
  ⟨((h.kept hg).set (show 0 < 2 by omega) v').congr fun j hj => by
    rcases j with _ | _ | j
    · rfl
    · rfl
    · omega, hO.setFar (by show b < _; omega) _⟩
theorem Sys.spot {w1 w2 : World} {b : Nat} {p : Int} {v : Value} {xss : List (List Int)} (h : Sys w1 b p v xss) (hg : w1.grownBy w2 v.ownBlock) :
    w2.cell? ⟨b, 0, none⟩ = some v ∧ w2.frozen? ⟨b, 0, none⟩ = false := ⟨(h.kept hg).cell (show 0 < 2 by omega), (h.kept hg).free (show 0 < 2 by omega)⟩
theorem Sys.far {w w1 w2 : World} {b : Nat} {p : Int} {v : Value} {xss : List (List Int)} (h : Sys w1 b p v xss) (hb : Below b w w1) (hg : w1.grownBy w2 v.ownBlock) (v' : Value) : Below b w (w2.setCell ⟨b, 0, none⟩ v') :=
  (hb.grown hg (by have := h.size; omega) (fun k hk => by have := (h.own.block k hk).1; omega)).setCell (by show _ ≤ b; omega) _
theorem own_three (w : World) (x y z : Int) : Own (w.alloc (.cells #[.int .i64 x, .int .i64 y, .int .i64 z] 3)) w.heap.size 3 (.slice (some ⟨w.heap.size, 0, none⟩) 3 3) [x, y, z] :=
  ⟨by simp [cellsOf], .inr ⟨w.heap.size, 3, #[.int .i64 x, .int .i64 y, .int .i64 z], rfl, Nat.le_refl _, heap_alloc_new w _, by simp, by unfold maxLen; omega, rfl, rfl⟩⟩
def tri (x y z : Int) : List Int := sortI [x, y, z]
theorem tri_len (x y z : Int) : (tri x y z).length = 3 := sortI_len _

set_option maxRecDepth 100000 in
set_option maxHeartbeats 2000000 in
theorem add_any (b : Nat) (p x y z : Int) (v : Value) (xss : List (List Int)) (w : World) (h : Sys w b p v xss) (hl : xss.length < 1000000) :
    Calls Try.prog 12 #[.pointer (some ⟨b, 0, none⟩), .int .i64 x, .int .i64 y, .int .i64 z] w fun e w' => e = .returned (.tuple #[]) ∧ ∃ v', Sys w' b p v' (xss ++ [tri x y z]) ∧ Below b w w' := by
  have HS := Lib.hid h
  have HO := Lib.hid (own_three w x y z)
  have hsz := h.size
  have HSo := Lib.hid (sort_own HO.out (by simp))
  obtain ⟨va, vc, rfl⟩ := h.own.shape
  clear h
  go_enter Try.func12, Try.ntmps12
  go_wp2_with fail
  refine (HSo.out).mono ?_
  rintro e w2 ⟨rfl, hown, hg⟩
  have hb2 : Below w.heap.size w w2 := ((Below.refl w.heap.size w).alloc (Nat.le_refl _) _).grown hg (by rw [World.size_alloc]; omega) (fun k hk => (HO.out.block k hk).1)
  have HS2 := Lib.hid (HS.out.next hb2)
  have HO2 : Hid (Own w2 (b + 1) 3 (.slice (some ⟨w.heap.size, 0, none⟩) 3 3) (tri x y z)) := hown.base (by omega)
  have HB2 := Lib.hid (hb2.mono (show b ≤ w.heap.size by omega))
  have hsz2 := HS2.out.size
  obtain ⟨c0, c1⟩ := HS2.out.cells
  clear hown hg hb2 HSo
  go_wp2_with (at_builtin; refine app_list rfl _ _ rfl rfl (HS2.out.own.below (below_box _ _)) _ (HO2.out.alloc _) rfl (by rw [World.cell?_alloc_new]; rfl) (by omega) (by rw [World.size_alloc]; omega) ?_; intro v' w3 hown1 hgrow; obtain ⟨ua, uc, rfl⟩ := hown1.shape; have HS3 := Lib.hid ((HS2.out.next (below_box _ _)).push hown1 hgrow); obtain ⟨y1, y2⟩ := (HS2.out.next (below_box _ _)).spot hgrow; have HB3 := Lib.hid (fun u => (HS2.out.next (below_box _ _)).far (HB2.out.alloc (by omega) _) hgrow u); clear hown1 hgrow)
  have hln : (xss ++ [tri x y z]).length = xss.length + 1 := by simp
  rw [hln] at HS3
  go_end0
  exact ⟨rfl, _, HS3.out, HB3.out _⟩
end Go.Proofs.Ytimfggbfapbihaa
