/-
  Contracts: quasi.Unit, quasi.Parts. No condition.
-/
import Derived.Test.YtkmfhnjadpdkeaaDoorAsk2
import Derived.Test.YtkmfhnjadpdkeaaDoorAll3
namespace Go.Proofs.YtkmfhnjadpdkeaaDoor
open Go.RowKit

theorem unitC_any {n : Nat} {xs : List Int} (hL : IsLatin n xs) (y z u b x c : Nat) (w : World) (hx : x < n) (hy : y < n) (h : Nums w b 65 (tfill n xs xs.length)) (hc : w.cell? ⟨c, 0, none⟩ = some (.int .i64 x)) :
    Calls Tryd.prog 47 #[.int .i64 y, .int .i64 z, .int .i64 u, .pointer (some ⟨b, 0, none⟩), .pointer (some ⟨c, 0, none⟩)] w fun e w' => e = .returned (.bool (unitP n xs x y)) ∧ Below w.heap.size w w' := by
  have hn8 : n ≤ 8 := by have := hL.hi; omega
  have c1 := tab_qn hL h hx hy
  have c2 := tab_qn hL h hy hx
  have hx8 : x < 8 := by omega
  have hx9 : (x : Int) < 8 := by omega
  have hy8 : y < 8 := by omega
  have hy9 : (y : Int) < 8 := by omega
  have Hs : Hid (unitP n xs x y = ((qn n xs x y == y) && (qn n xs y x == y))) := rfl
  have f1 : (((qn n xs x y : Nat) : Int) == (y : Int)) = (qn n xs x y == y) := by rw [Bool.eq_iff_iff]; simp; omega
  have f2 : (((qn n xs y x : Nat) : Int) == (y : Int)) = (qn n xs y x == y) := by rw [Bool.eq_iff_iff]; simp; omega
  clear h
  cases e1 : (qn n xs x y == y) <;> cases e2 : (qn n xs y x == y)
  all_goals
    have Hs2 := Hs.out
    rw [e1, e2] at Hs2
    rw [e1] at f1
    rw [e2] at f2
    have He := Lib.hid Hs2
    clear Hs Hs2 e1 e2
    go_enter Tryd.func47, Tryd.ntmps47
    go_wp2
    go_quiet (fail)
    go_wp2
    go_ret
    exact ⟨ret_bool (by rw [He.out] <;> rfl), below_D _ _⟩

end Go.Proofs.YtkmfhnjadpdkeaaDoor
