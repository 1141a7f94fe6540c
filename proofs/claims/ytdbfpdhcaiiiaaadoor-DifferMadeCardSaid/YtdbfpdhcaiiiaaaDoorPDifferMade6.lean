/-
  Contracts: the reference's Lists, Designs (are two designs the same?). No condition.
  Contracts: the library's slices.IndexFunc, ContainsFunc over ints, at whatever predicate is quiet. No condition.
  Contracts: design.Check, the reference's DesignFault: what is wrong with a design. No condition.
  Contract: the reference's Lies (is a number in a list?). No condition.
-/
import Derived.Test.YtdbfpdhcaiiiaaaDoorPDifferMade5
import Derived.Test.YtdbfpdhcaiiiaaaDoorRows
import Derived.Test.YtdbfpdhcaiiiaaaDoorPDifferMade2
import Derived.Test.YtdbfpdhcaiiiaaaDoorPDifferMade4
namespace Go.Proofs.YtdbfpdhcaiiiaaaDoor
open Go.RowKit

def eqL (xss yss : List (List Int)) : Bool := decide (xss = yss)
theorem eqL_refl (xss : List (List Int)) : eqL xss xss = true := by simp [eqL]
theorem eqL_len {xss yss : List (List Int)} (h : xss.length ≠ yss.length) : eqL xss yss = false := by
  simp only [eqL, decide_eq_false_iff_not]
  intro e; subst e; exact h rfl
theorem eqL_at {xss yss : List (List Int)} {k : Nat} (h : eqI (rx xss k) (rx yss k) = false) : eqL xss yss = false := by
  simp only [eqL, decide_eq_false_iff_not]
  intro e; subst e; rw [eqI_refl] at h; cases h
theorem ext_rx {xss yss : List (List Int)} (h : xss.length = yss.length) (ha : ∀ k, k < xss.length → rx xss k = rx yss k) : xss = yss := by
  apply List.ext_getElem h
  intro i h1 h2
  have := ha i h1
  rw [rx_lt h1, rx_lt h2] at this; exact this
theorem eqL_all {xss yss : List (List Int)} (h : xss.length = yss.length) (ha : ∀ k, k < xss.length → eqI (rx xss k) (rx yss k) = true) : eqL xss yss = true := by
  rw [ext_rx h fun k hk => eqI_iff.1 (ha k hk)]; exact eqL_refl _

set_option maxHeartbeats 400000 in
theorem lists_any (v u : Value) (xss yss : List (List Int)) (w : World) (h : RowsAt w v xss) (g : RowsAt w u yss) :
    Calls Tryd.prog 44 #[v, u] w fun e w' => e = .returned (.bool (eqL xss yss)) ∧ ∃ nd, w' = w.drewN nd := by
  obtain ⟨a, c, V, rfl, h1, h2, _, h3⟩ := h
  obtain ⟨b, d, U, rfl, g1, g2, _, g3⟩ := g
  have HX := Lib.hid h3; have HY := Lib.hid g3
  clear h3 g3
  by_cases hl : xss.length = yss.length
  · have hl' : (((xss.length : Nat) : Int) != ((yss.length : Nat) : Int)) = false := by rw [hl]; simp
    have HL := Lib.hid hl; clear hl
    go_enter Tryd.func44, Tryd.ntmps44
    go_wp2_with fail
    clear hl'
    go_loopw [5] (fun i wr => ∃ k nd : Nat, k ≤ xss.length ∧ i = .int .i64 k ∧ (∀ j, j < k → eqI (rx xss j) (rx yss j) = true) ∧ wr = w.drewN nd) (fun i _ => xss.length - (intOf i).toNat)
    case atStart => exact ⟨0, 0, by omega, rfl, fun j hj => by omega, rfl⟩
    case round =>
      obtain ⟨k, nd, hk, rfl, ha, hwr⟩ := hrel
      have HA := Lib.hid ha; clear ha
      have HW := Lib.hid hwr; clear hwr
      by_cases hlt : k < xss.length
      · have hlt2 : k < yss.length := by have := HL.out; omega
        obtain ⟨r1, b1, o1, rfl, hb1, hc1⟩ := HX.out k hlt
        obtain ⟨r2, b2, o2, rfl, hb2, hc2⟩ := HY.out k hlt2
        have c1 := hc1 k hlt
        have c2 := hc2 k hlt2
        have hcw : ∀ p, wr.cell? p = w.cell? p := fun p => by rw [HW.out]; rfl
        rw [← hcw] at c1 c2
        have hbw : Below w.heap.size w wr := by rw [HW.out]; exact below_D _ _
        have i1 : ((k : Nat) : Int) < ((xss.length : Nat) : Int) := by omega
        have i2 : ((k : Nat) : Int) < ((yss.length : Nat) : Int) := by omega
        have HC : Hid (∀ m, Calls Tryd.prog 23 #[V k, U k] (wr.drewN m) fun e w' => e = .returned (.bool (eqI (rx xss k) (rx yss k))) ∧ ∃ nd', w' = (wr.drewN m).drewN nd') :=
          fun m => ints_any _ _ _ _ _ (r1.below (below_drewN hbw _)) (r2.below (below_drewN hbw _))
        obtain ⟨p1, p2, hp, _⟩ := r1
        obtain ⟨q1, q2, hq, _⟩ := r2
        rw [hp] at c1 HC
        rw [hq] at c2 HC
        clear hc1 hc2 hp hq hcw hbw
        cases e : eqI (rx xss k) (rx yss k)
        all_goals
          rw [e] at HC
          have He := Lib.hid e; clear e
          go_wp2_with fail
          go_quiet (exact Calls.quiet_of (HC.out _))
          go_wp2_with fail
        · go_ret
          exact ⟨ret_bool (eqL_at He.out).symm, _, by rw [HW.out]; exact World.drewN_drewN _ _ _⟩
        · go_roundw
          case rel => exact ⟨k + 1, _, by omega, by go_num, fun j hj => by
            by_cases ej : j = k
            · subst ej; exact He.out
            · exact HA.out j (by omega), by rw [HW.out, World.drewN_drewN]⟩
          case measure => simp [intOf]; omega
      · obtain rfl : k = xss.length := by omega
        go_wp2_with fail
        go_ret
        exact ⟨ret_bool (eqL_all HL.out HA.out).symm, _, HW.out⟩
  · have hl' : (((xss.length : Nat) : Int) != ((yss.length : Nat) : Int)) = true := by simp; omega
    have HL := Lib.hid hl; clear hl
    go_enter Tryd.func44, Tryd.ntmps44
    go_wp2_with fail
    go_ret
    exact ⟨ret_bool (eqL_len HL.out).symm, 0, rfl⟩

set_option maxHeartbeats 400000 in
theorem designs_any (s t : Int) (v u : Value) (xss yss : List (List Int)) (w : World) (h : RowsAt w v xss) (g : RowsAt w u yss) :
    Calls Tryd.prog 21 #[.agg #[.int .i64 s, v], .agg #[.int .i64 t, u]] w fun e w' => e = .returned (.bool (s == t && eqL xss yss)) ∧ Below w.heap.size w w' := by
  have HBW := Lib.hid (belowTrans (below_box w (.cells #[.int .i64 s, v] 47)) (below_box _ (.cells #[.int .i64 t, u] 47)))
  have HC := Lib.hid (lists_any v u xss yss _ (h.below HBW.out) (g.below HBW.out))
  clear h g
  obtain ⟨r, hr⟩ : ∃ r, r = eqL xss yss := ⟨_, rfl⟩
  rw [← hr] at HC ⊢
  clear hr
  cases e1 : (s == t) <;> cases r
  all_goals
    go_enter Tryd.func21, Tryd.ntmps21
    go_wp2_with fail
    refine (HC.out).mono ?_
    rintro e w2 ⟨rfl, nd, rfl⟩
    have HB := Lib.hid (below_D ((w.alloc (.cells #[.int .i64 s, v] 47)).alloc (.cells #[.int .i64 t, u] 47)) nd)
    obtain ⟨y1, y2, y3, y4, y5, y6⟩ := box2 HB.out
    go_wp2
    go_ret
    exact ⟨rfl, belowTrans HBW.out HB.out⟩
end Go.Proofs.YtdbfpdhcaiiiaaaDoor

namespace Go.Proofs.YtdbfpdhcaiiiaaaDoor
open Go.RowKit

set_option maxHeartbeats 400000 in
theorem indexFunc_any (g : FuncId) (hg : ∀ (args : Array Value) (w : World), (callFunc g args).run Tryd.prog w = .ok (.enter g args) w) (q : Value) (p : Int → Bool) (v : Value) (xs : List Int) (w : World) (h : IntsAt w v xs)
    (hp : ∀ x, Calls Tryd.prog g #[.int .i64 x, q] w fun e w' => e = .returned (.bool (p x)) ∧ w = w') :
    Calls Tryd.prog 71 #[v, .func (.func g) #[] #[q]] w fun e w' => e = .returned (.int .i64 (findI p xs)) ∧ w = w' := by
  have Hp := Lib.hid hp; clear hp
  obtain ⟨a, c, rfl, h1, h2, _, h3⟩ := h
  go_enter Tryd.func71, Tryd.ntmps71
  go_wp2
  go_loop [8] (fun i => ∃ k : Nat, k ≤ xs.length ∧ i = .int .i64 k ∧ anyB p (xs.take k) = false) (fun i => xs.length - (intOf i).toNat)
  case atStart => exact ⟨0, by omega, rfl, by simp [anyB]⟩
  case round =>
    obtain ⟨k, hk, rfl, hn⟩ := hrel
    have Hn := Lib.hid hn; clear hn
    by_cases hlt : k < xs.length
    · obtain ⟨b, o, rfl, hb, hc⟩ := h3 k hlt
      have hcell := hc k hlt
      clear hc h3
      cases ep : p (ix xs k)
      all_goals
        have Hep := Lib.hid ep; clear ep
        go_wp2_with (refine (Hp.out _).mono ?_; rw [Hep.out]; rintro e w' ⟨rfl, rfl⟩)
      · go_round
        case rel => exact ⟨k + 1, by omega, by go_num, by rw [any_take hlt, Hn.out, Hep.out]; rfl⟩
        case measure => simp [intOf]; omega
      · go_ret
        exact ⟨ret_int (findI_hit hlt Hn.out Hep.out).symm, rfl⟩
    · obtain rfl : k = xs.length := by omega
      go_wp2
      go_ret
      exact ⟨ret_int (findI_none (by simpa using Hn.out)).symm, rfl⟩

theorem containsFunc_any (g : FuncId) (hg : ∀ (args : Array Value) (w : World), (callFunc g args).run Tryd.prog w = .ok (.enter g args) w) (q : Value) (p : Int → Bool) (v : Value) (xs : List Int) (w : World) (h : IntsAt w v xs)
    (hp : ∀ x, Calls Tryd.prog g #[.int .i64 x, q] w fun e w' => e = .returned (.bool (p x)) ∧ w = w') :
    Calls Tryd.prog 57 #[v, .func (.func g) #[] #[q]] w fun e w' => e = .returned (.bool (anyB p xs)) ∧ w = w' := by
  have Hc := Lib.hid (indexFunc_any g hg q p v xs w h hp)
  clear hp h hg
  have e := findI_pos p xs
  have He := Lib.hid e; clear e
  go_enter Tryd.func57, Tryd.ntmps57
  go_wp2_with (go_at_call 71; refine (Hc.out).mono ?_; rintro e w' ⟨rfl, rfl⟩)
  go_ret
  exact ⟨ret_bool He.out, rfl⟩

theorem enters_latinCheck (args : Array Value) (w : World) : (callFunc 58 args).run Tryd.prog w = .ok (.enter 58 args) w := by kernel_rfl
end Go.Proofs.YtdbfpdhcaiiiaaaDoor

namespace Go.Proofs.YtdbfpdhcaiiiaaaDoor
open Go.RowKit

/-- What is wrong with one block, with the first of some blocks. -/
def blockF (n : Int) (b : List Int) : Int := if anyB (outV n) b then 1 else if incB b then 0 else 2
def desTo (n : Int) (xss : List (List Int)) : Nat → Int
  | 0 => 0
  | k + 1 => if desTo n xss k = 0 then blockF n (rx xss k) else desTo n xss k
def desFault (n : Int) (xss : List (List Int)) : Int := if n < 1 ∨ 40 < n then 1 else if 200 < xss.length then 3 else desTo n xss xss.length
theorem desTo_next {n : Int} {xss : List (List Int)} {k : Nat} (h : desTo n xss k = 0) : desTo n xss (k + 1) = blockF n (rx xss k) := by rw [desTo, if_pos h]
theorem desTo_hit {n : Int} {xss : List (List Int)} {k : Nat} {e : Int} (h : desTo n xss k = 0) (he : blockF n (rx xss k) = e) (h0 : e ≠ 0) : ∀ {m : Nat}, k < m → desTo n xss m = e
  | 0, hk => by omega
  | m + 1, hk => by
    by_cases e2 : k = m
    · subst e2; rw [desTo_next h, he]
    · rw [desTo, desTo_hit h he h0 (m := m) (by omega), if_neg h0]
structure IsBlock (n : Int) (b : List Int) : Prop where
  rng : ∀ k, k < b.length → 0 ≤ ix b k ∧ ix b k < n
  inc : incB b = true
structure IsDes (n : Int) (xss : List (List Int)) : Prop where
  lo : 1 ≤ n
  hi : n ≤ 40
  few : xss.length ≤ 200
  all : ∀ i, i < xss.length → IsBlock n (rx xss i)
theorem block_of {n : Int} {b : List Int} (h : blockF n b = 0) : IsBlock n b := by
  unfold blockF at h
  cases h2 : anyB (outV n) b
  · rw [h2] at h
    cases h3 : incB b
    · rw [h3] at h; cases h
    · exact ⟨anyV h2, h3⟩
  · rw [h2] at h; cases h
theorem IsBlock.fault {n : Int} {b : List Int} (h : IsBlock n b) : blockF n b = 0 := by
  unfold blockF
  rw [anyV_of h.rng, h.inc]; rfl
theorem desTo_all {n : Int} {xss : List (List Int)} : ∀ {m : Nat}, desTo n xss m = 0 → ∀ i, i < m → IsBlock n (rx xss i)
  | 0, _, i, hi => by omega
  | m + 1, h, i, hi => by
    by_cases h0 : desTo n xss m = 0
    · rw [desTo_next h0] at h
      by_cases e : i = m
      · subst e; exact block_of h
      · exact desTo_all h0 i (by omega)
    · rw [desTo, if_neg h0] at h; exact absurd h h0
theorem desTo_of {n : Int} {xss : List (List Int)} : ∀ {m : Nat}, (∀ i, i < m → IsBlock n (rx xss i)) → desTo n xss m = 0
  | 0, _ => rfl
  | m + 1, h => by rw [desTo_next (desTo_of fun i hi => h i (by omega))]; exact (h m (by omega)).fault
theorem des_of {n : Int} {xss : List (List Int)} (h : desFault n xss = 0) : IsDes n xss := by
  unfold desFault at h
  by_cases h1 : n < 1 ∨ 40 < n
  · rw [if_pos h1] at h; cases h
  · rw [if_neg h1] at h
    by_cases h2 : 200 < xss.length
    · rw [if_pos h2] at h; cases h
    · rw [if_neg h2] at h
      exact ⟨by omega, by omega, by omega, desTo_all h⟩
theorem IsDes.fault {n : Int} {xss : List (List Int)} (h : IsDes n xss) : desFault n xss = 0 := by
  have := h.lo; have := h.hi; have := h.few
  unfold desFault
  rw [if_neg (by omega), if_neg (by omega), desTo_of h.all]
theorem notInc_full {xs : List Int} {k : Nat} (h : notInc xs k = false) (hk : ¬ k + 1 < xs.length) (hk2 : k + 1 ≤ xs.length ∨ k = 0) : incB xs = true := by
  unfold incB
  have : k = xs.length - 1 := by omega
  rw [← this, h]; rfl

end Go.Proofs.YtdbfpdhcaiiiaaaDoor

namespace Go.Proofs.YtdbfpdhcaiiiaaaDoor
open Go.RowKit
end Go.Proofs.YtdbfpdhcaiiiaaaDoor
