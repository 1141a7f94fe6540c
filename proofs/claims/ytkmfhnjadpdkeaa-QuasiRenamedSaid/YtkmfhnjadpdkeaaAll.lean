/-
  All of some, the first of some: the plain words; the reference's At of a Latin square. No condition.
-/
import Derived.Test.YtkmfhnjadpdkeaaQuasi2
namespace Go.Proofs.Ytkmfhnjadpdkeaa
open Go.RowKit

def allTo (f : Nat → Bool) : Nat → Bool
  | 0 => true
  | k + 1 => allTo f k && f k
theorem allTo_hit {f : Nat → Bool} {k : Nat} : ∀ {n : Nat}, k < n → f k = false → allTo f n = false
  | 0, h, _ => by omega
  | n + 1, h, e => by
    rw [allTo]
    by_cases hk : k = n
    · subst hk; rw [e, Bool.and_false]
    · rw [allTo_hit (n := n) (by omega) e]; rfl
theorem allTo_iff {f : Nat → Bool} : ∀ {n : Nat}, allTo f n = true ↔ ∀ k, k < n → f k = true
  | 0 => by simp [allTo]
  | n + 1 => by
    rw [allTo, Bool.and_eq_true, allTo_iff (n := n)]
    constructor
    · intro h k hk
      by_cases e : k = n
      · subst e; exact h.2
      · exact h.1 k (by omega)
    · intro h; exact ⟨fun k hk => h k (by omega), h n (by omega)⟩
/-- The first below n; -1: there is none. -/
def first (f : Nat → Bool) : Nat → Int
  | 0 => -1
  | k + 1 => if first f k = -1 then (if f k then (k : Int) else -1) else first f k
theorem first_no {f : Nat → Bool} {k : Nat} (h : first f k = -1) (e : f k = false) : first f (k + 1) = -1 := by rw [first, if_pos h, e]; rfl
theorem first_yes {f : Nat → Bool} {k : Nat} (h : first f k = -1) (e : f k = true) : ∀ {n : Nat}, k < n → first f n = k
  | 0, h => by omega
  | n + 1, hk => by
    rw [first]
    by_cases hn : k = n
    · subst hn; rw [if_pos h, e]; rfl
    · have := first_yes h e (n := n) (by omega)
      rw [if_neg (by omega), this]
theorem first_congr {f g : Nat → Bool} : ∀ {n : Nat}, (∀ k, k < n → f k = g k) → first f n = first g n
  | 0, _ => rfl
  | n + 1, h => by rw [first, first, first_congr (n := n) (fun k hk => h k (by omega)), h n (by omega)]
theorem allTo_congr {f g : Nat → Bool} : ∀ {n : Nat}, (∀ k, k < n → f k = g k) → allTo f n = allTo g n
  | 0, _ => rfl
  | n + 1, h => by rw [allTo, allTo, allTo_congr (n := n) (fun k hk => h k (by omega)), h n (by omega)]

/-- What two elements multiply to. -/
def qn (n : Nat) (xs : List Int) (i j : Nat) : Nat := (qat n xs i j).toNat
theorem qn_lt {n : Nat} {xs : List Int} (h : IsLatin n xs) {i j : Nat} (hi : i < n) (hj : j < n) : qn n xs i j < n := by
  have := h.cell hi hj; unfold qn; omega
theorem qn_qat {n : Nat} {xs : List Int} (h : IsLatin n xs) {i j : Nat} (hi : i < n) (hj : j < n) : qat n xs i j = (qn n xs i j : Nat) := by
  have := h.cell hi hj; unfold qn; omega
theorem at_lat {n : Nat} {xs : List Int} (h : IsLatin n xs) {x y : Nat} (hx : x < n) (hy : y < n) (v : Value) (w : World) (hI : IntsAt w v xs) :
    Calls Try.prog 18 #[.agg #[.int .i64 n, v], .int .i64 x, .int .i64 y] w fun e w' => e = .returned (.int .i64 (qn n xs x y : Nat)) ∧ Below w.heap.size w w' := by
  refine (at_any n x y v xs w hI ⟨h.lo, h.hi⟩ h.len (by omega) (by omega)).mono ?_
  rintro e w' ⟨rfl, hb⟩
  refine ⟨?_, hb⟩
  rw [Int.toNat_natCast, Int.toNat_natCast, Int.toNat_natCast, ← qn_qat h hx hy]; rfl
def idemP (n : Nat) (xs : List Int) (x : Nat) : Bool := qn n xs x x == x
def commP (n : Nat) (xs : List Int) (x y : Nat) : Bool := qn n xs x y == qn n xs y x
def commY (n : Nat) (xs : List Int) (x : Nat) : Bool := allTo (commP n xs x) x
def assocP (n : Nat) (xs : List Int) (x y z : Nat) : Bool := qn n xs (qn n xs x y) z == qn n xs x (qn n xs y z)
def assocZ (n : Nat) (xs : List Int) (x y : Nat) : Bool := allTo (assocP n xs x y) n
def assocY (n : Nat) (xs : List Int) (x : Nat) : Bool := allTo (assocZ n xs x) n
def unitP (n : Nat) (xs : List Int) (u y : Nat) : Bool := qn n xs u y == y && qn n xs y u == y
def unitU (n : Nat) (xs : List Int) (u : Nat) : Bool := allTo (unitP n xs u) n

set_option maxHeartbeats 1000000 in
theorem idemOf_any (n : Nat) (v : Value) (xs : List Int) (w : World) (h : IntsAt w v xs) (hL : IsLatin n xs) :
    Calls Try.prog 37 #[.agg #[.int .i64 n, v]] w fun e w' => e = .returned (.bool (allTo (idemP n xs) n)) ∧ Below w.heap.size w w' := by
  have HB := Lib.hid (below_box w (.cells #[.int .i64 n, v] 24))
  have HI := Lib.hid (h.below HB.out)
  have HL := Lib.hid hL
  have hn8 : n ≤ 8 := by have := hL.hi; omega
  clear h hL
  go_enter Try.func37, Try.ntmps37
  go_wp2_with fail
  go_loopw [3] (fun sx wr => ∃ x : Nat, x ≤ n ∧ sx = .int .i64 x ∧ allTo (idemP n xs) x = true ∧ Below (w.alloc (.cells #[.int .i64 n, v] 24)).heap.size (w.alloc (.cells #[.int .i64 n, v] 24)) wr) (fun sx _ => n - (intOf sx).toNat)
  case atStart => exact ⟨0, by omega, rfl, rfl, Below.refl _ _⟩
  case round =>
    obtain ⟨x, hx, rfl, ha, hb⟩ := hrel
    have HA := Lib.hid ha; have Hb := Lib.hid hb; clear ha hb
    obtain ⟨y1, y2, y3⟩ := box1 Hb.out
    by_cases hlt : x < n
    · cases e : idemP n xs x
      all_goals
        have He := Lib.hid e
        have ed : (((qn n xs x x : Nat) : Int) != (x : Int)) = !(idemP n xs x) := by unfold idemP; rw [Bool.eq_iff_iff]; simp; omega
        rw [e] at ed
        clear e
        go_wp2_with fail
        refine (at_lat HL.out hlt hlt v _ (HI.out.below Hb.out)).mono ?_
        rintro e w1 ⟨rfl, hb1⟩
        have Hb1 := Lib.hid (belowTrans Hb.out hb1); clear hb1
        go_wp2_with fail
      · go_ret
        exact ⟨ret_bool (allTo_hit hlt He.out).symm, belowTrans HB.out Hb1.out⟩
      · go_roundw
        case rel => exact ⟨x + 1, by omega, by go_num, by rw [allTo, HA.out, He.out]; rfl, Hb1.out⟩
        case measure => simp [intOf]; omega
    · obtain rfl : x = n := by omega
      go_wp2_with fail
      go_ret
      exact ⟨ret_bool HA.out.symm, belowTrans HB.out Hb.out⟩

set_option maxHeartbeats 1000000 in
theorem commOf_any (n : Nat) (v : Value) (xs : List Int) (w : World) (h : IntsAt w v xs) (hL : IsLatin n xs) :
    Calls Try.prog 35 #[.agg #[.int .i64 n, v]] w fun e w' => e = .returned (.bool (allTo (commY n xs) n)) ∧ Below w.heap.size w w' := by
  have HB := Lib.hid (below_box w (.cells #[.int .i64 n, v] 24))
  have HI := Lib.hid (h.below HB.out)
  have HL := Lib.hid hL
  have hn8 : n ≤ 8 := by have := hL.hi; omega
  clear h hL
  go_enter Try.func35, Try.ntmps35
  go_wp2_with fail
  go_loopw [3] (fun sx wr => ∃ x : Nat, x ≤ n ∧ sx = .int .i64 x ∧ allTo (commY n xs) x = true ∧ Below (w.alloc (.cells #[.int .i64 n, v] 24)).heap.size (w.alloc (.cells #[.int .i64 n, v] 24)) wr) (fun sx _ => n - (intOf sx).toNat)
  case atStart => exact ⟨0, by omega, rfl, rfl, Below.refl _ _⟩
  case round =>
    obtain ⟨x, hx, rfl, ha, hb⟩ := hrel
    have HA := Lib.hid ha; have Hb := Lib.hid hb; clear ha hb
    obtain ⟨y1, y2, y3⟩ := box1 Hb.out
    by_cases hlt : x < n
    · go_wp2_with fail
      go_loopw [4] (fun sy wr => ∃ y : Nat, y ≤ x ∧ sy = .int .i64 y ∧ allTo (commP n xs x) y = true ∧ Below (w.alloc (.cells #[.int .i64 n, v] 24)).heap.size (w.alloc (.cells #[.int .i64 n, v] 24)) wr) (fun sy _ => x - (intOf sy).toNat)
      case atStart => exact ⟨0, by omega, rfl, rfl, Hb.out⟩
      case round =>
        clear Hb
        obtain ⟨y, hy, rfl, ha, hb⟩ := hrel
        have HA2 := Lib.hid ha; have Hb := Lib.hid hb; clear ha hb y1 y2 y3
        obtain ⟨y1, y2, y3⟩ := box1 Hb.out
        by_cases hly : y < x
        · cases e : commP n xs x y
          all_goals
            have He := Lib.hid e
            have ed : (((qn n xs x y : Nat) : Int) != ((qn n xs y x : Nat) : Int)) = !(commP n xs x y) := by unfold commP; rw [Bool.eq_iff_iff]; simp; omega
            rw [e] at ed
            clear e
            go_wp2_with fail
            refine (at_lat HL.out hlt (by omega) v _ (HI.out.below Hb.out)).mono ?_
            rintro e w1 ⟨rfl, hb1⟩
            have Hb1 := Lib.hid (belowTrans Hb.out hb1); clear hb1
            obtain ⟨z1, z2, z3⟩ := box1 Hb1.out
            go_wp2_with fail
            refine (at_lat HL.out (by omega) hlt v _ (HI.out.below Hb1.out)).mono ?_
            rintro e w2 ⟨rfl, hb2⟩
            have Hb2 := Lib.hid (belowTrans Hb1.out hb2); clear hb2
            go_wp2_with fail
          · go_ret
            exact ⟨ret_bool (allTo_hit hlt (show commY n xs x = false from allTo_hit hly He.out)).symm, belowTrans HB.out Hb2.out⟩
          · go_roundw
            case rel => exact ⟨y + 1, by omega, by go_num, by rw [allTo, HA2.out, He.out]; rfl, Hb2.out⟩
            case measure => simp [intOf]; omega
        · obtain rfl : y = x := by omega
          have He : Hid (commY n xs y = true) := HA2.out
          go_wp2_with fail
          go_roundw
          case rel => exact ⟨y + 1, by omega, by go_num, by rw [allTo, HA.out, He.out]; rfl, Hb.out⟩
          case measure => simp [intOf]; omega
    · obtain rfl : x = n := by omega
      go_wp2_with fail
      go_ret
      exact ⟨ret_bool HA.out.symm, belowTrans HB.out Hb.out⟩

end Go.Proofs.Ytkmfhnjadpdkeaa
