/-
  The reference's AssociatesOf, UnitOf of a Latin square. No condition.
-/
import Derived.Test.YtkmfhnjadpdkeaaAll
namespace Go.Proofs.Ytkmfhnjadpdkeaa
open Go.RowKit

set_option maxHeartbeats 1000000 in
theorem assocOf_any (n : Nat) (v : Value) (xs : List Int) (w : World) (h : IntsAt w v xs) (hL : IsLatin n xs) :
    Calls Try.prog 36 #[.agg #[.int .i64 n, v]] w fun e w' => e = .returned (.bool (allTo (assocY n xs) n)) ∧ Below w.heap.size w w' := by
  have HB := Lib.hid (below_box w (.cells #[.int .i64 n, v] 24))
  have HI := Lib.hid (h.below HB.out)
  have HL := Lib.hid hL
  have hn8 : n ≤ 8 := by have := hL.hi; omega
  clear h hL
  go_enter Try.func36, Try.ntmps36
  go_wp2_with fail
  go_loopw [3] (fun sx wr => ∃ x : Nat, x ≤ n ∧ sx = .int .i64 x ∧ allTo (assocY n xs) x = true ∧ Below (w.alloc (.cells #[.int .i64 n, v] 24)).heap.size (w.alloc (.cells #[.int .i64 n, v] 24)) wr) (fun sx _ => n - (intOf sx).toNat)
  case atStart => exact ⟨0, by omega, rfl, rfl, Below.refl _ _⟩
  case round =>
    obtain ⟨x, hx, rfl, ha, hb⟩ := hrel
    have HA := Lib.hid ha; have Hb := Lib.hid hb; clear ha hb
    obtain ⟨y1, y2, y3⟩ := box1 Hb.out
    by_cases hlt : x < n
    · go_wp2_with fail
      go_loopw [4] (fun sy wr => ∃ y : Nat, y ≤ n ∧ sy = .int .i64 y ∧ allTo (assocZ n xs x) y = true ∧ Below (w.alloc (.cells #[.int .i64 n, v] 24)).heap.size (w.alloc (.cells #[.int .i64 n, v] 24)) wr) (fun sy _ => n - (intOf sy).toNat)
      case atStart => exact ⟨0, by omega, rfl, rfl, Hb.out⟩
      case round =>
        clear Hb
        obtain ⟨y, hy, rfl, ha, hb⟩ := hrel
        have HA2 := Lib.hid ha; have Hb := Lib.hid hb; clear ha hb y1 y2 y3
        obtain ⟨y1, y2, y3⟩ := box1 Hb.out
        by_cases hly : y < n
        · go_wp2_with fail
          go_loopw [5] (fun sz wr => ∃ z : Nat, z ≤ n ∧ sz = .int .i64 z ∧ allTo (assocP n xs x y) z = true ∧ Below (w.alloc (.cells #[.int .i64 n, v] 24)).heap.size (w.alloc (.cells #[.int .i64 n, v] 24)) wr) (fun sz _ => n - (intOf sz).toNat)
          case atStart => exact ⟨0, by omega, rfl, rfl, Hb.out⟩
          case round =>
            clear Hb
            obtain ⟨z, hz, rfl, ha, hb⟩ := hrel
            have HA3 := Lib.hid ha; have Hb := Lib.hid hb; clear ha hb y1 y2 y3
            obtain ⟨y1, y2, y3⟩ := box1 Hb.out
            by_cases hlz : z < n
            · cases e : assocP n xs x y z
              all_goals
                have He := Lib.hid e
                have ed : (((qn n xs (qn n xs x y) z : Nat) : Int) != ((qn n xs x (qn n xs y z) : Nat) : Int)) = !(assocP n xs x y z) := by unfold assocP; rw [Bool.eq_iff_iff]; simp; omega
                rw [e] at ed
                clear e
                go_wp2_with fail
                refine (at_lat HL.out hlt hly v _ (HI.out.below Hb.out)).mono ?_
                rintro e w1 ⟨rfl, hb1⟩
                have Hb1 := Lib.hid (belowTrans Hb.out hb1); clear hb1
                obtain ⟨z1, z2, z3⟩ := box1 Hb1.out
                go_wp2_with fail
                refine (at_lat HL.out hly hlz v _ (HI.out.below Hb1.out)).mono ?_
                rintro e w2 ⟨rfl, hb2⟩
                have Hb2 := Lib.hid (belowTrans Hb1.out hb2); clear hb2 z1 z2 z3
                obtain ⟨z1, z2, z3⟩ := box1 Hb2.out
                go_wp2_with fail
                refine (at_lat HL.out (qn_lt HL.out hlt hly) hlz v _ (HI.out.below Hb2.out)).mono ?_
                rintro e w3 ⟨rfl, hb3⟩
                have Hb3 := Lib.hid (belowTrans Hb2.out hb3); clear hb3 z1 z2 z3
                obtain ⟨z1, z2, z3⟩ := box1 Hb3.out
                go_wp2_with fail
                refine (at_lat HL.out hlt (qn_lt HL.out hly hlz) v _ (HI.out.below Hb3.out)).mono ?_
                rintro e w4 ⟨rfl, hb4⟩
                have Hb4 := Lib.hid (belowTrans Hb3.out hb4); clear hb4 z1 z2 z3
                go_wp2_with fail
              · go_ret
                exact ⟨ret_bool (allTo_hit hlt (show assocY n xs x = false from allTo_hit hly (show assocZ n xs x y = false from allTo_hit hlz He.out))).symm, belowTrans HB.out Hb4.out⟩
              · go_roundw
                case rel => exact ⟨z + 1, by omega, by go_num, by rw [allTo, HA3.out, He.out]; rfl, Hb4.out⟩
                case measure => simp [intOf]; omega
            · obtain rfl : z = n := by omega
              have He : Hid (assocZ z xs x y = true) := HA3.out
              go_wp2_with fail
              go_roundw
              case rel => exact ⟨y + 1, by omega, by go_num, by rw [allTo, HA2.out, He.out]; rfl, Hb.out⟩
              case measure => simp [intOf]; omega
        · obtain rfl : y = n := by omega
          have He : Hid (assocY y xs x = true) := HA2.out
          go_wp2_with fail
          go_roundw
          case rel => exact ⟨x + 1, by omega, by go_num, by rw [allTo, HA.out, He.out]; rfl, Hb.out⟩
          case measure => simp [intOf]; omega
    · obtain rfl : x = n := by omega
      go_wp2_with fail
      go_ret
      exact ⟨ret_bool HA.out.symm, belowTrans HB.out Hb.out⟩

end Go.Proofs.Ytkmfhnjadpdkeaa
