/-
  Contracts: the closures of a quasigroup's questions. No condition.
-/
import Derived.Test.YtkmfhnjadpdkeaaDoorAllOf
import Derived.Test.YtkmfhnjadpdkeaaDoorBits
namespace Go.Proofs.YtkmfhnjadpdkeaaDoor
open Go.RowKit

theorem tab_qn {n : Nat} {xs : List Int} (hL : IsLatin n xs) {w : World} {b : Nat} (h : Nums w b 65 (tfill n xs xs.length)) {x y : Nat} (hx : x < n) (hy : y < n) :
    w.cell? ⟨b, 1 + x * 8 + y, none⟩ = some (.int .i64 (qn n xs x y : Nat)) := by
  have hn8 : n ≤ 8 := by have := hL.hi; omega
  rw [Arr.cell h (show 1 + x * 8 + y < 65 by omega)]
  show some (Value.int .i64 (tfill n xs xs.length (1 + x * 8 + y))) = _
  rw [tab_cell hL hx hy, qn_qat hL hx hy]

theorem assocC_any {n : Nat} {xs : List Int} (hL : IsLatin n xs) (x y z b : Nat) (w : World) (hx : x < n) (hy : y < n) (hz : z < n) (h : Nums w b 65 (tfill n xs xs.length)) :
    Calls Tryd.prog 48 #[.int .i64 x, .int .i64 y, .int .i64 z, .pointer (some ⟨b, 0, none⟩)] w fun e w' => e = .returned (.bool (assocP n xs x y z)) ∧ Below w.heap.size w w' := by
  have hn8 : n ≤ 8 := by have := hL.hi; omega
  have q1 := qn_lt hL hx hy
  have q2 := qn_lt hL hy hz
  have c1 := tab_qn hL h hx hy
  have c2 := tab_qn hL h hy hz
  have c3 := tab_qn hL h q1 hz
  have c4 := tab_qn hL h hx q2
  have Hed : Hid ((((qn n xs (qn n xs x y) z : Nat) : Int) == ((qn n xs x (qn n xs y z) : Nat) : Int)) = assocP n xs x y z) := by show _ = _; unfold assocP; rw [Bool.eq_iff_iff]; simp; omega
  generalize qn n xs (qn n xs x y) z = r1 at *
  generalize qn n xs x (qn n xs y z) = r2 at *
  generalize qn n xs x y = s1 at *
  generalize qn n xs y z = s2 at *
  have hx8 : x < 8 := by omega
  have hx9 : (x : Int) < 8 := by omega
  have hy8 : y < 8 := by omega
  have hy9 : (y : Int) < 8 := by omega
  have hz8 : z < 8 := by omega
  have hz9 : (z : Int) < 8 := by omega
  have hs8 : s1 < 8 := by omega
  have hs9 : (s1 : Int) < 8 := by omega
  have ht8 : s2 < 8 := by omega
  have ht9 : (s2 : Int) < 8 := by omega
  clear h
  go_enter Tryd.func48, Tryd.ntmps48
  go_wp2
  go_quiet (fail)
  go_wp2
  go_ret
  exact ⟨ret_bool Hed.out, below_D _ _⟩

theorem enters_assocC (args : Array Value) (w : World) : (callFunc 48 args).run Tryd.prog w = .ok (.enter 48 args) w := by kernel_rfl
theorem enters_unitC (args : Array Value) (w : World) : (callFunc 47 args).run Tryd.prog w = .ok (.enter 47 args) w := by kernel_rfl

end Go.Proofs.YtkmfhnjadpdkeaaDoor
