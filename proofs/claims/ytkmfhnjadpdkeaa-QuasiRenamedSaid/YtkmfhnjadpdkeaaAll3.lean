/-
  The reference's UnitOf, Closed, PartsOf of a Latin square. No condition.
-/
import Derived.Test.YtkmfhnjadpdkeaaAll
import Derived.Test.YtkmfhnjadpdkeaaBits
import Derived.Test.YtkmfhnjadpdkeaaTrans
namespace Go.Proofs.Ytkmfhnjadpdkeaa
open Go.RowKit

set_option maxHeartbeats 1000000 in
theorem unitOf_any (n : Nat) (v : Value) (xs : List Int) (w : World) (h : IntsAt w v xs) (hL : IsLatin n xs) :
    Calls Try.prog 34 #[.agg #[.int .i64 n, v]] w fun e w' => e = .returned (.int .i64 (first (unitU n xs) n)) ∧ Below w.heap.size w w' := by
  have HB := Lib.hid (below_box w (.cells #[.int .i64 n, v] 24))
  have HI := Lib.hid (h.below HB.out)
  have HL := Lib.hid hL
  have hn8 : n ≤ 8 := by have := hL.hi; omega
  clear h hL
  go_enter Try.func34, Try.ntmps34
  go_wp2_with fail
  go_loopw [3] (fun sx wr => ∃ x : Nat, x ≤ n ∧ sx = .int .i64 x ∧ first (unitU n xs) x = -1 ∧ Below (w.alloc (.cells #[.int .i64 n, v] 24)).heap.size (w.alloc (.cells #[.int .i64 n, v] 24)) wr) (fun sx _ => n - (intOf sx).toNat)
  case atStart => exact ⟨0, by omega, rfl, rfl, Below.refl _ _⟩
  case round =>
    obtain ⟨x, hx, rfl, ha, hb⟩ := hrel
    have HA := Lib.hid ha; have Hb := Lib.hid hb; clear ha hb
    obtain ⟨y1, y2, y3⟩ := box1 Hb.out
    by_cases hlt : x < n
    · go_wp2_with fail
      go_loopw [4, 5] (fun so sy wr => ∃ y : Nat, y ≤ n ∧ sy = .int .i64 y ∧ so = .bool (allTo (unitP n xs x) y) ∧ Below (w.alloc (.cells #[.int .i64 n, v] 24)).heap.size (w.alloc (.cells #[.int .i64 n, v] 24)) wr) (fun _ sy _ => n - (intOf sy).toNat)
      case atStart => exact ⟨0, by omega, rfl, rfl, Hb.out⟩
      case round =>
        clear Hb
        obtain ⟨y, hy, rfl, rfl, hb⟩ := hrel
        have Hb := Lib.hid hb; clear hb y1 y2 y3
        obtain ⟨y1, y2, y3⟩ := box1 Hb.out
        by_cases hly : y < n
        · have Hs : Hid (allTo (unitP n xs x) (y + 1) = (allTo (unitP n xs x) y && ((qn n xs x y == y) && (qn n xs y x == y)))) := rfl
          cases e0 : allTo (unitP n xs x) y <;> cases e1 : (qn n xs x y == y) <;> cases e2 : (qn n xs y x == y)
          all_goals
            have Hs2 := Hs.out
            rw [e0, e1, e2] at Hs2
            clear Hs
            have He := Lib.hid Hs2; clear Hs2
            have f1 : (((qn n xs x y : Nat) : Int) == (y : Int)) = (qn n xs x y == y) := by rw [Bool.eq_iff_iff]; simp; omega
            have f2 : (((qn n xs y x : Nat) : Int) == (y : Int)) = (qn n xs y x == y) := by rw [Bool.eq_iff_iff]; simp; omega
            rw [e1] at f1
            rw [e2] at f2
            clear e0 e1 e2
            go_wp2_with fail
            refine (at_lat HL.out hlt hly v _ (HI.out.below Hb.out)).mono ?_
            rintro e w1 ⟨rfl, hb1⟩
            have Hb1 := Lib.hid (belowTrans Hb.out hb1); clear hb1
            obtain ⟨z1, z2, z3⟩ := box1 Hb1.out
            go_wp2_with fail
            refine (at_lat HL.out hly hlt v _ (HI.out.below Hb1.out)).mono ?_
            rintro e w2 ⟨rfl, hb2⟩
            have Hb2 := Lib.hid (belowTrans Hb1.out hb2); clear hb2
            go_wp2_with fail
            go_roundw
            case rel => exact ⟨y + 1, by omega, by go_num, by rw [He.out]; rfl, Hb2.out⟩
            case measure => simp [intOf]; omega
        · obtain rfl : y = n := by omega
          cases e : allTo (unitP y xs x) y
          all_goals
            have He : Hid (unitU y xs x = _) := e
            clear e
            go_wp2_with fail
          · go_roundw
            case rel => exact ⟨x + 1, by omega, by go_num, first_no HA.out He.out, Hb.out⟩
            case measure => simp [intOf]; omega
          · go_ret
            exact ⟨ret_int (first_yes HA.out He.out hlt).symm, belowTrans HB.out Hb.out⟩
    · obtain rfl : x = n := by omega
      go_wp2_with fail
      go_ret
      exact ⟨ret_int HA.out.symm, belowTrans HB.out Hb.out⟩

theorem shr_and_one (c j : Nat) (hc : c < 9223372036854775808) : (bits .and .i64 ((c : Int) / 2 ^ j) 1 == 1) = tb c j := by
  rw [shr_and c j hc]; cases tb c j <;> rfl
/-- Is it a way out of a set? -/
def outP (n : Nat) (xs : List Int) (c x y : Nat) : Bool := !(tb c x && tb c y && !tb c (qn n xs x y))
def clY (n : Nat) (xs : List Int) (c x : Nat) : Bool := allTo (outP n xs c x) n
def closedB (n : Nat) (xs : List Int) (c : Nat) : Bool := allTo (clY n xs c) n

set_option maxHeartbeats 1000000 in
theorem closedOf_any (n c : Nat) (v : Value) (xs : List Int) (w : World) (h : IntsAt w v xs) (hL : IsLatin n xs) (hc : c ≤ 256) :
    Calls Try.prog 43 #[.agg #[.int .i64 n, v], .int .i64 c] w fun e w' => e = .returned (.bool (closedB n xs c)) ∧ Below w.heap.size w w' := by
  have HB := Lib.hid (below_box w (.cells #[.int .i64 n, v] 24))
  have HI := Lib.hid (h.below HB.out)
  have HL := Lib.hid hL
  have hn8 : n ≤ 8 := by have := hL.hi; omega
  clear h hL
  go_enter Try.func43, Try.ntmps43
  go_wp2_with fail
  go_loopw [5] (fun sx wr => ∃ x : Nat, x ≤ n ∧ sx = .int .i64 x ∧ allTo (clY n xs c) x = true ∧ Below (w.alloc (.cells #[.int .i64 n, v] 24)).heap.size (w.alloc (.cells #[.int .i64 n, v] 24)) wr) (fun sx _ => n - (intOf sx).toNat)
  case atStart => exact ⟨0, by omega, rfl, rfl, Below.refl _ _⟩
  case round =>
    obtain ⟨x, hx, rfl, ha, hb⟩ := hrel
    have HA := Lib.hid ha; have Hb := Lib.hid hb; clear ha hb
    obtain ⟨y1, y2, y3⟩ := box1 Hb.out
    by_cases hlt : x < n
    · go_wp2_with fail
      go_loopw [6] (fun sy wr => ∃ y : Nat, y ≤ n ∧ sy = .int .i64 y ∧ allTo (outP n xs c x) y = true ∧ Below (w.alloc (.cells #[.int .i64 n, v] 24)).heap.size (w.alloc (.cells #[.int .i64 n, v] 24)) wr) (fun sy _ => n - (intOf sy).toNat)
      case atStart => exact ⟨0, by omega, rfl, rfl, Hb.out⟩
      case round =>
        clear Hb
        obtain ⟨y, hy, rfl, ha, hb⟩ := hrel
        have HA2 := Lib.hid ha; have Hb := Lib.hid hb; clear ha hb y1 y2 y3
        obtain ⟨y1, y2, y3⟩ := box1 Hb.out
        by_cases hly : y < n
        · have hz := qn_lt HL.out hlt hly
          have b1 := shr_and_one c x (by omega)
          have b2 := shr_and_one c y (by omega)
          have b3 := shr_and_zero c (qn n xs x y) (by omega)
          have Hs : Hid (outP n xs c x y = !(tb c x && tb c y && !tb c (qn n xs x y))) := rfl
          cases e0 : tb c x <;> cases e1 : tb c y <;> cases e2 : tb c (qn n xs x y)
          all_goals
            have Hs2 := Hs.out
            rw [e0, e1, e2] at Hs2
            clear Hs
            have He := Lib.hid Hs2; clear Hs2
            rw [e0] at b1
            rw [e1] at b2
            rw [e2] at b3
            clear e0 e1 e2
            go_wp2_with fail
            refine (at_lat HL.out hlt hly v _ (HI.out.below Hb.out)).mono ?_
            rintro e w1 ⟨rfl, hb1⟩
            have Hb1 := Lib.hid (belowTrans Hb.out hb1); clear hb1
            go_wp2_with fail
            first
            | (go_roundw
               case rel => exact ⟨y + 1, by omega, by go_num, by rw [allTo, HA2.out, He.out]; rfl, Hb1.out⟩
               case measure => simp [intOf]; omega)
            | (go_ret
               exact ⟨ret_bool (allTo_hit hlt (show clY n xs c x = false from allTo_hit hly He.out)).symm, belowTrans HB.out Hb1.out⟩)
        · obtain rfl : y = n := by omega
          have He : Hid (clY y xs c x = true) := HA2.out
          go_wp2_with fail
          go_roundw
          case rel => exact ⟨x + 1, by omega, by go_num, by rw [allTo, HA.out, He.out]; rfl, Hb.out⟩
          case measure => simp [intOf]; omega
    · obtain rfl : x = n := by omega
      go_wp2_with fail
      go_ret
      exact ⟨ret_bool HA.out.symm, belowTrans HB.out Hb.out⟩

/-- How many sets below c are closed. -/
def partsC (n : Nat) (xs : List Int) : Nat → Nat
  | 0 => 0
  | c + 1 => partsC n xs c + if closedB n xs (c + 1) then 1 else 0
theorem partsC_le (n : Nat) (xs : List Int) : ∀ c, partsC n xs c ≤ c
  | 0 => Nat.le_refl _
  | c + 1 => by have := partsC_le n xs c; rw [partsC]; split <;> omega
theorem pow_le {n : Nat} (h : n ≤ 8) : 2 ^ n ≤ 256 ∧ 1 ≤ 2 ^ n := ⟨pow256 h, Nat.one_le_two_pow⟩

set_option maxHeartbeats 1000000 in
theorem partsOf_any (n : Nat) (v : Value) (xs : List Int) (w : World) (h : IntsAt w v xs) (hL : IsLatin n xs) :
    Calls Try.prog 38 #[.agg #[.int .i64 n, v]] w fun e w' => e = .returned (.int .i64 (partsC n xs (2 ^ n - 1))) ∧ Below w.heap.size w w' := by
  have HB := Lib.hid (below_box w (.cells #[.int .i64 n, v] 24))
  have HI := Lib.hid (h.below HB.out)
  have HL := Lib.hid hL
  have hn8 : n ≤ 8 := by have := hL.hi; omega
  obtain ⟨hp1, hp2⟩ := pow_le hn8
  have hsh : Value.int .i64 (wrap64 ((2 : Int) ^ n)) = Value.int .i64 ((2 ^ n : Nat) : Int) := shl_val (j := n) (by omega)
  obtain ⟨M, hM⟩ : ∃ M, M = 2 ^ n := ⟨_, rfl⟩
  rw [← hM] at hp1 hp2 hsh
  have hpI : (2 : Int) ^ n = (M : Int) := by rw [hM, Int.natCast_pow]; rfl
  rw [← hM]
  clear h hL hsh hM
  go_enter Try.func38, Try.ntmps38
  go_wp2_with fail
  go_loopw [3, 4] (fun sm sc wr => ∃ c : Nat, c + 1 ≤ M ∧ sc = .int .i64 ((c : Int) + 1) ∧ sm = .int .i64 (partsC n xs c) ∧ Below (w.alloc (.cells #[.int .i64 n, v] 24)).heap.size (w.alloc (.cells #[.int .i64 n, v] 24)) wr) (fun _ sc _ => M - (intOf sc).toNat)
  case atStart => exact ⟨0, by omega, rfl, rfl, Below.refl _ _⟩
  case round =>
    obtain ⟨c, hc, rfl, rfl, hb⟩ := hrel
    have Hb := Lib.hid hb; clear hb
    obtain ⟨y1, y2, y3⟩ := box1 Hb.out
    have hle := partsC_le n xs c
    by_cases hlt : c + 1 < M
    · have Hs : Hid (partsC n xs (c + 1) = partsC n xs c + if closedB n xs (c + 1) then 1 else 0) := rfl
      cases e : closedB n xs (c + 1)
      all_goals
        have Hs2 := Hs.out
        rw [e] at Hs2
        have He := Lib.hid e; have Hn := Lib.hid Hs2
        clear e Hs Hs2
        go_wp2_with fail
        refine (show Calls Try.prog 43 #[.agg #[.int .i64 n, v], .int .i64 ((c : Int) + 1)] wr _ from by have := closedOf_any n (c + 1) v xs wr (HI.out.below Hb.out) HL.out (by omega); rw [He.out] at this; exact this).mono ?_
        rintro e w1 ⟨rfl, hb1⟩
        have Hb1 := Lib.hid (belowTrans Hb.out hb1); clear hb1
        go_wp2_with fail
        go_roundw
        case rel => exact ⟨c + 1, by omega, by go_num, by rw [Hn.out]; go_num, Hb1.out⟩
        case measure => simp [intOf]; omega
    · obtain rfl : M = c + 1 := by omega
      go_wp2_with fail
      go_ret
      exact ⟨rfl, belowTrans HB.out Hb.out⟩

end Go.Proofs.Ytkmfhnjadpdkeaa
