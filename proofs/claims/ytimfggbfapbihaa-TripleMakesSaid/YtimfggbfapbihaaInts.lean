/-
  Contracts: the reference's Ints (are two lists the same?). No condition.
-/
import Derived.Test.YtimfggbfapbihaaSlice
namespace Go.Proofs.Ytimfggbfapbihaa
open Go.RowKit

/-- Are two lists the same? -/
def eqI (xs ys : List Int) : Bool := decide (xs = ys)
theorem eqI_iff {xs ys : List Int} : eqI xs ys = true ↔ xs = ys := by simp [eqI]
theorem eqI_refl (xs : List Int) : eqI xs xs = true := by simp [eqI]
theorem eqI_len {xs ys : List Int} (h : xs.length ≠ ys.length) : eqI xs ys = false := by
  cases e : eqI xs ys
  · rfl
  · rw [eqI_iff] at e; subst e; exact absurd rfl h
theorem eqI_at {xs ys : List Int} {k : Nat} (h : ix xs k ≠ ix ys k) : eqI xs ys = false := by
  cases e : eqI xs ys
  · rfl
  · rw [eqI_iff] at e; subst e; exact absurd rfl h
theorem eqI_all {xs ys : List Int} (h : xs.length = ys.length) (ha : ∀ k, k < xs.length → ix xs k = ix ys k) : eqI xs ys = true := by
  rw [eqI_iff]
  apply List.ext_getElem h
  intro i h1 h2
  have := ha i h1
  rw [ix_lt h1, ix_lt h2] at this; exact this
theorem ext_ix {xs ys : List Int} (h : xs.length = ys.length) (ha : ∀ k, k < xs.length → ix xs k = ix ys k) : xs = ys := eqI_iff.1 (eqI_all h ha)

set_option maxHeartbeats 400000 in
theorem ints_any (v u : Value) (xs ys : List Int) (w : World) (h : IntsAt w v xs) (g : IntsAt w u ys) :
    Calls Try.prog 18 #[v, u] w fun e w' => e = .returned (.bool (eqI xs ys)) ∧ ∃ nd, w' = w.drewN nd := by
  obtain ⟨a, c, rfl, h1, h2, _, h3⟩ := h
  obtain ⟨b, d, rfl, g1, g2, _, g3⟩ := g
  by_cases hl : xs.length = ys.length
  · have hl' : (((xs.length : Nat) : Int) != ((ys.length : Nat) : Int)) = false := by rw [hl]; simp
    have HL := Lib.hid hl; clear hl
    go_enter Try.func18, Try.ntmps18
    go_wp2
    clear hl'
    go_loopw [5] (fun i wr => ∃ k nd : Nat, k ≤ xs.length ∧ i = .int .i64 k ∧ (∀ j, j < k → ix xs j = ix ys j) ∧ wr = w.drewN nd) (fun i _ => xs.length - (intOf i).toNat)
    case atStart => exact ⟨0, 0, by omega, rfl, fun j hj => by omega, rfl⟩
    case round =>
      obtain ⟨k, nd, hk, rfl, ha, rfl⟩ := hrel
      have HA := Lib.hid ha; clear ha
      by_cases hlt : k < xs.length
      · have hlt2 : k < ys.length := by have := HL.out; omega
        obtain ⟨b1, o1, rfl, hb1, hc1⟩ := h3 k hlt
        obtain ⟨b2, o2, rfl, hb2, hc2⟩ := g3 k hlt2
        have c1 := hc1 k hlt
        have c2 := hc2 k hlt2
        have i1 : ((k : Nat) : Int) < ((xs.length : Nat) : Int) := by omega
        have i2 : ((k : Nat) : Int) < ((ys.length : Nat) : Int) := by omega
        clear hc1 hc2 h3 g3
        cases e : (ix xs k != ix ys k)
        · have He : Hid (ix xs k = ix ys k) := by show _ = _; simpa using e
          go_wp2
          go_quiet (fail)
          go_wp2
          go_roundw
          case rel => exact ⟨k + 1, _, by omega, by go_num, fun j hj => by
            by_cases ej : j = k
            · subst ej; exact He.out
            · exact HA.out j (by omega), rfl⟩
          case measure => simp [intOf]; omega
        · have He : Hid (ix xs k ≠ ix ys k) := by show _ ≠ _; simpa using e
          go_wp2
          go_quiet (fail)
          go_wp2
          go_ret
          exact ⟨ret_bool (eqI_at He.out).symm, _, World.drewN_drewN _ _ _⟩
      · obtain rfl : k = xs.length := by omega
        go_wp2
        go_ret
        exact ⟨ret_bool (eqI_all HL.out HA.out).symm, _, rfl⟩
  · have hl' : (((xs.length : Nat) : Int) != ((ys.length : Nat) : Int)) = true := by simp; omega
    have HL := Lib.hid hl; clear hl
    go_enter Try.func18, Try.ntmps18
    go_wp2
    go_ret
    exact ⟨ret_bool (eqI_len HL.out).symm, 0, rfl⟩
theorem ints_bel (v u : Value) (xs ys : List Int) (w : World) (h : IntsAt w v xs) (g : IntsAt w u ys) :
    Calls Try.prog 18 #[v, u] w fun e w' => e = .returned (.bool (eqI xs ys)) ∧ Below w.heap.size w w' := by
  refine (ints_any v u xs ys w h g).mono ?_
  rintro e w' ⟨rfl, nd, rfl⟩
  exact ⟨rfl, below_D _ _⟩
end Go.Proofs.Ytimfggbfapbihaa
