/-
  Contract: the reference's Squares (are two squares the same?). No condition.
-/
import Derived.Test.YtdbfpdhcaiiiaaaDoorInts
namespace Go.Proofs.YtdbfpdhcaiiiaaaDoor
open Go.RowKit

set_option maxHeartbeats 400000 in
theorem squares_any (s t : Int) (v u : Value) (xs ys : List Int) (w : World) (h : IntsAt w v xs) (g : IntsAt w u ys) :
    Calls Tryd.prog 9 #[.agg #[.int .i64 s, v], .agg #[.int .i64 t, u]] w fun e w' => e = .returned (.bool (s == t && eqI xs ys)) ∧ Below w.heap.size w w' := by
  have HBW := Lib.hid (belowTrans (below_box w (.cells #[.int .i64 s, v] 26)) (below_box _ (.cells #[.int .i64 t, u] 26)))
  have HC := Lib.hid (ints_bel v u xs ys _ (h.below HBW.out) (g.below HBW.out))
  clear h g
  obtain ⟨r, hr⟩ : ∃ r, r = eqI xs ys := ⟨_, rfl⟩
  rw [← hr] at HC ⊢
  clear hr
  cases e1 : (s == t) <;> cases r
  all_goals
    go_enter Tryd.func9, Tryd.ntmps9
    go_wp2_with fail
    refine (HC.out).mono ?_
    rintro e w2 ⟨rfl, hb⟩
    have HB := Lib.hid hb; clear hb
    obtain ⟨y1, y2, y3, y4, y5, y6⟩ := box2 HB.out
    go_wp2
    go_ret
    exact ⟨rfl, belowTrans HBW.out HB.out⟩
end Go.Proofs.YtdbfpdhcaiiiaaaDoor
