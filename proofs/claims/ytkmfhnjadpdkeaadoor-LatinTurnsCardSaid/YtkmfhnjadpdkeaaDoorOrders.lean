/-
  What the condition on the table of orders gives: its cells. No condition but that.
-/
import Derived.Test.YtkmfhnjadpdkeaaDoorConj
import Derived.Test.YtkmfhnjadpdkeaaDoorRows
import Derived.ProofKit
import Derived.LaidMore
import Derived.OpenShut
import Derived.Lib.LaidTab
import Derived.Stop.Joined
namespace Go.Proofs.YtkmfhnjadpdkeaaDoor
open Go.RowKit

def ordersLaid : List (String × DataW Unit) := [("parterre/latin.orders", Rows.laid_parterre_latin_orders)]
theorem gOrders : Tryd.prog.globalNamed "parterre/latin.orders" = some 0 := by kernel_rfl
theorem tOrders : (Tryd.prog.globals[0]?).map (·.type) = some 50 := by kernel_rfl
theorem c3 : Tryd.prog.cellsOf 49 = 3 := by kernel_rfl
theorem cInt : Tryd.prog.cellsOf 3 = 1 := by kernel_rfl
theorem orders_met (os : Os) (args : Array Value) : laidMetH Tryd.prog ordersLaid ((World.doorLaid Tryd.prog 400 os).forCall (fun _ _ => 0) ⟨#[], args, []⟩).memory :=
  laidMetH_of_parts3 (fuel := 8) (laidMet_of_run' 8 (by kernel_rfl) (by kernel_rfl)) (by kernel_rfl) (by kernel_rfl)
theorem orders_of_laid {W : World} (h : laidMetH Tryd.prog ordersLaid W) : OrdersAt W := by
  rw [MakeChecks.laidMetH_plain _ _ _ (by kernel_rfl)] at h
  obtain ⟨ps, ⟨g0, t0, cs0, f0, p0, q0, hg0, ht0, hv0, hd0, _, _⟩, _, _⟩ := h
  obtain rfl := Option.some.inj (gOrders.symm.trans hg0)
  obtain rfl := Option.some.inj (tOrders.symm.trans ht0)
  obtain ⟨xs, m, rfl, hx, hlen, hn, hel⟩ := DataW.trod_array Tryd.underlying50 hd0
  have hx1 : xs.map (·.1) = [Lib.tabData .i64 [0, 1, 2], Lib.tabData .i64 [0, 2, 1], Lib.tabData .i64 [1, 0, 2], Lib.tabData .i64 [1, 2, 0], Lib.tabData .i64 [2, 0, 1], Lib.tabData .i64 [2, 1, 0]] := by
    have := congrArg Prod.fst hx
    injection this with this
    exact this.symm
  have key : ∀ k i, k < 6 → i < 3 → W.cell? ⟨0, k * 3 + i, none⟩ = some (.int .i64 (o3 k i : Nat)) := by
    intro k i hk hi
    have h1 := hel k hk
    rw [c3] at h1
    have h2 : (xs[k]?).map (·.1) = (xs.map (·.1))[k]? := by rw [List.getElem?_map]
    rw [hx1] at h2
    cases e : xs[k]? with
    | none =>
      rw [e] at h2
      rw [List.getElem?_eq_getElem (by simpa using hk)] at h2
      cases h2
    | some y =>
      rw [e] at h1 h2
      obtain ⟨d, p⟩ := y
      rw [World.var?_cell hg0 hv0 (k * 3 + i), ← Array.getElem?_toList]
      have h3 : (cs0.toList.drop (k * 3)).take 3 = ((List.range 3).map fun i => Value.int .i64 (o3 k i : Nat)) := by
        have hk6 : k = 0 ∨ k = 1 ∨ k = 2 ∨ k = 3 ∨ k = 4 ∨ k = 5 := by omega
        rcases hk6 with rfl | rfl | rfl | rfl | rfl | rfl
        all_goals
          have hd : d = _ := Option.some.inj h2
          rw [hd] at h1
          exact Lib.cells_of_tab Tryd.underlying49 Tryd.underlying3 cInt c3 h1
      have h4 : ((cs0.toList.drop (k * 3)).take 3)[i]? = cs0.toList[k * 3 + i]? := by
        rw [List.getElem?_take_of_lt hi, List.getElem?_drop]
      rw [← h4, h3]
      simp [hi]
  exact ⟨World.block_lt_of_cell? W _ (key 0 0 (by omega) (by omega)), key⟩
end Go.Proofs.YtkmfhnjadpdkeaaDoor
