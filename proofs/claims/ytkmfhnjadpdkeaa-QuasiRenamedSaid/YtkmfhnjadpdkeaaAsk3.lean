/-
  Contracts: quasi.Unit, quasi.Parts. No condition.
-/
import Derived.Test.YtkmfhnjadpdkeaaAsk2
import Derived.Test.YtkmfhnjadpdkeaaAll3
namespace Go.Proofs.Ytkmfhnjadpdkeaa
open Go.RowKit

theorem unitC_any {n : Nat} {xs : List Int} (hL : IsLatin n xs) (y z u b x c : Nat) (w : World) (hx : x < n) (hy : y < n) (h : Nums w b 65 (tfill n xs xs.length)) (hc : w.cell? ⟨c, 0, none⟩ = some (.int .i64 x)) :
    Calls Try.prog 62 #[.int .i64 y, .int .i64 z, .int .i64 u, .pointer (some ⟨b, 0, none⟩), .pointer (some ⟨c, 0, none⟩)] w fun e w' => e = .returned (.bool (unitP n xs x y)) ∧ Below w.heap.size w w' := by
  have hn8 : n ≤ 8 := by have := hL.hi; omega
  have c1 := tab_qn hL h hx hy
  have c2 := tab_qn hL h hy hx
  have hx8 : x < 8 := by omega
  have hx9 : (x : Int) < 8 := by omega
  have hy8 : y < 8 := by omega
  have hy9 : (y : Int) < 8 := by omega
  have Hs : Hid (unitP n xs x y = ((qn n xs x y == y) && (qn n xs y x == y))) := rfl
  have f1 : (((qn n xs x y : Nat) : Int) == (y : Int)) = (qn n xs x y == y) := by rw [Bool.eq_iff_iff]; simp; omega
  have f2 : (((qn n xs y x : Nat) : Int) == (y : Int)) = (qn n xs y x == y) := by rw [Bool.eq_iff_iff]; simp; omega
  clear h
  cases e1 : (qn n xs x y == y) <;> cases e2 : (qn n xs y x == y)
  all_goals
    have Hs2 := Hs.out
    rw [e1, e2] at Hs2
    rw [e1] at f1
    rw [e2] at f2
    have He := Lib.hid Hs2
    clear Hs Hs2 e1 e2
    go_enter Try.func62, Try.ntmps62
    go_wp2
    go_quiet (fail)
    go_wp2
    go_ret
    exact ⟨ret_bool (by rw [He.out] <;> rfl), below_D _ _⟩

theorem closedC_any {n : Nat} {xs : List Int} (hL : IsLatin n xs) (x y z b c k : Nat) (w : World) (hx : x < n) (hy : y < n) (hc : c ≤ 256) (h : Nums w b 65 (tfill n xs xs.length)) (hk : w.cell? ⟨k, 0, none⟩ = some (.int .i64 c)) :
    Calls Try.prog 71 #[.int .i64 x, .int .i64 y, .int .i64 z, .pointer (some ⟨k, 0, none⟩), .pointer (some ⟨b, 0, none⟩)] w fun e w' => e = .returned (.bool (outP n xs c x y)) ∧ Below w.heap.size w w' := by
  have hn8 : n ≤ 8 := by have := hL.hi; omega
  have c1 := tab_qn hL h hx hy
  have hz := qn_lt hL hx hy
  have hx8 : x < 8 := by omega
  have hx9 : (x : Int) < 8 := by omega
  have hy8 : y < 8 := by omega
  have hy9 : (y : Int) < 8 := by omega
  have b1 := shr_and_zero c x (by omega)
  have b2 := shr_and_zero c y (by omega)
  have b3 := shr_and_one c (qn n xs x y) (by omega)
  have Hs : Hid (outP n xs c x y = !(tb c x && tb c y && !tb c (qn n xs x y))) := rfl
  clear h
  cases e0 : tb c x <;> cases e1 : tb c y <;> cases e2 : tb c (qn n xs x y)
  all_goals
    have Hs2 := Hs.out
    rw [e0, e1, e2] at Hs2
    have He := Lib.hid Hs2
    rw [e0] at b1
    rw [e1] at b2
    rw [e2] at b3
    clear Hs Hs2 e0 e1 e2
    go_enter Try.func71, Try.ntmps71
    go_wp2
    go_quiet (fail)
    go_wp2
    go_ret
    exact ⟨ret_bool (by rw [He.out] <;> rfl), below_D _ _⟩
end Go.Proofs.Ytkmfhnjadpdkeaa
