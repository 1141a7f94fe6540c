/-
  Contracts: the reference's Lists, Designs (are two designs the same?). No condition.
-/
import Derived.Test.YtimfggbfapbihaaInts
namespace Go.Proofs.Ytimfggbfapbihaa
open Go.RowKit

def eqL (xss yss : List (List Int)) : Bool := decide (xss = yss)
theorem eqL_refl (xss : List (List Int)) : eqL xss xss = true := by simp [eqL]
theorem eqL_len {xss yss : List (List Int)} (h : xss.length ≠ yss.length) : eqL xss yss = false := by
  simp only [eqL, decide_eq_false_iff_not]
  intro e; subst e; exact h rfl
theorem eqL_at {xss yss : List (List Int)} {k : Nat} (h : eqI (rx xss k) (rx yss k) = false) : eqL xss yss = false := by
  simp only [eqL, decide_eq_false_iff_not]
  intro e; subst e; rw [eqI_refl] at h; cases h
theorem ext_rx {xss yss : List (List Int)} (h : xss.length = yss.length) (ha : ∀ k, k < xss.length → rx xss k = rx yss k) : xss = yss := by
  apply List.ext_getElem h
  intro i h1 h2
  have := ha i h1
  rw [rx_lt h1, rx_lt h2] at this; exact this
theorem eqL_all {xss yss : List (List Int)} (h : xss.length = yss.length) (ha : ∀ k, k < xss.length → eqI (rx xss k) (rx yss k) = true) : eqL xss yss = true := by
  rw [ext_rx h fun k hk => eqI_iff.1 (ha k hk)]; exact eqL_refl _

set_option maxHeartbeats 400000 in
theorem lists_any (v u : Value) (xss yss : List (List Int)) (w : World) (h : RowsAt w v xss) (g : RowsAt w u yss) :
    Calls Try.prog 11 #[v, u] w fun e w' => e = .returned (.bool (eqL xss yss)) ∧ ∃ nd, w' = w.drewN nd := by
  obtain ⟨a, c, V, rfl, h1, h2, _, h3⟩ := h
  obtain ⟨b, d, U, rfl, g1, g2, _, g3⟩ := g
  have HX := Lib.hid h3; have HY := Lib.hid g3
  clear h3 g3
  by_cases hl : xss.length = yss.length
  · have hl' : (((xss.length : Nat) : Int) != ((yss.length : Nat) : Int)) = false := by rw [hl]; simp
    have HL := Lib.hid hl; clear hl
    go_enter Try.func11, Try.ntmps11
    go_wp2_with fail
    clear hl'
    go_loopw [5] (fun i wr => ∃ k nd : Nat, k ≤ xss.length ∧ i = .int .i64 k ∧ (∀ j, j < k → eqI (rx xss j) (rx yss j) = true) ∧ wr = w.drewN nd) (fun i _ => xss.length - (intOf i).toNat)
    case atStart => exact ⟨0, 0, by omega, rfl, fun j hj => by omega, rfl⟩
    case round =>
      obtain ⟨k, nd, hk, rfl, ha, hwr⟩ := hrel
      have HA := Lib.hid ha; clear ha
      have HW := Lib.hid hwr; clear hwr
      by_cases hlt : k < xss.length
      · have hlt2 : k < yss.length := by have := HL.out; omega
        obtain ⟨r1, b1, o1, rfl, hb1, hc1⟩ := HX.out k hlt
        obtain ⟨r2, b2, o2, rfl, hb2, hc2⟩ := HY.out k hlt2
        have c1 := hc1 k hlt
        have c2 := hc2 k hlt2
        have hcw : ∀ p, wr.cell? p = w.cell? p := fun p => by rw [HW.out]; rfl
        rw [← hcw] at c1 c2
        have hbw : Below w.heap.size w wr := by rw [HW.out]; exact below_D _ _
        have i1 : ((k : Nat) : Int) < ((xss.length : Nat) : Int) := by omega
        have i2 : ((k : Nat) : Int) < ((yss.length : Nat) : Int) := by omega
        have HC : Hid (∀ m, Calls Try.prog 18 #[V k, U k] (wr.drewN m) fun e w' => e = .returned (.bool (eqI (rx xss k) (rx yss k))) ∧ ∃ nd', w' = (wr.drewN m).drewN nd') :=
          fun m => ints_any _ _ _ _ _ (r1.below (below_drewN hbw _)) (r2.below (below_drewN hbw _))
        obtain ⟨p1, p2, hp, _⟩ := r1
        obtain ⟨q1, q2, hq, _⟩ := r2
        rw [hp] at c1 HC
        rw [hq] at c2 HC
        clear hc1 hc2 hp hq hcw hbw
        cases e : eqI (rx xss k) (rx yss k)
        all_goals
          rw [e] at HC
          have He := Lib.hid e; clear e
          go_wp2_with fail
          go_quiet (exact Calls.quiet_of (HC.out _))
          go_wp2_with fail
        · go_ret
          exact ⟨ret_bool (eqL_at He.out).symm, _, by rw [HW.out]; exact World.drewN_drewN _ _ _⟩
        · go_roundw
          case rel => exact ⟨k + 1, _, by omega, by go_num, fun j hj => by
            by_cases ej : j = k
            · subst ej; exact He.out
            · exact HA.out j (by omega), by rw [HW.out, World.drewN_drewN]⟩
          case measure => simp [intOf]; omega
      · obtain rfl : k = xss.length := by omega
        go_wp2_with fail
        go_ret
        exact ⟨ret_bool (eqL_all HL.out HA.out).symm, _, HW.out⟩
  · have hl' : (((xss.length : Nat) : Int) != ((yss.length : Nat) : Int)) = true := by simp; omega
    have HL := Lib.hid hl; clear hl
    go_enter Try.func11, Try.ntmps11
    go_wp2_with fail
    go_ret
    exact ⟨ret_bool (eqL_len HL.out).symm, 0, rfl⟩

set_option maxHeartbeats 400000 in
theorem designs_any (s t : Int) (v u : Value) (xss yss : List (List Int)) (w : World) (h : RowsAt w v xss) (g : RowsAt w u yss) :
    Calls Try.prog 6 #[.agg #[.int .i64 s, v], .agg #[.int .i64 t, u]] w fun e w' => e = .returned (.bool (s == t && eqL xss yss)) ∧ Below w.heap.size w w' := by
  have HBW := Lib.hid (belowTrans (below_box w (.cells #[.int .i64 s, v] 24)) (below_box _ (.cells #[.int .i64 t, u] 24)))
  have HC := Lib.hid (lists_any v u xss yss _ (h.below HBW.out) (g.below HBW.out))
  clear h g
  obtain ⟨r, hr⟩ : ∃ r, r = eqL xss yss := ⟨_, rfl⟩
  rw [← hr] at HC ⊢
  clear hr
  cases e1 : (s == t) <;> cases r
  all_goals
    go_enter Try.func6, Try.ntmps6
    go_wp2_with fail
    refine (HC.out).mono ?_
    rintro e w2 ⟨rfl, nd, rfl⟩
    have HB := Lib.hid (below_D ((w.alloc (.cells #[.int .i64 s, v] 24)).alloc (.cells #[.int .i64 t, u] 24)) nd)
    obtain ⟨y1, y2, y3, y4, y5, y6⟩ := box2 HB.out
    go_wp2
    go_ret
    exact ⟨rfl, belowTrans HBW.out HB.out⟩
end Go.Proofs.Ytimfggbfapbihaa
