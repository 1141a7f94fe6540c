/-
  Contract: the reference's MultipliersOf. No condition.
-/
import Derived.Test.YtnmgambilpoeiaaShifted
import Derived.Test.YtnmgambilpoeiaaMultL
import Derived.Test.YtnmgambilpoeiaaGcd
import Derived.Test.YtnmgambilpoeiaaOwnL
namespace Go.Proofs.Ytnmgambilpoeiaa
open Go.RowKit

set_option maxRecDepth 100000 in
set_option maxHeartbeats 2000000 in
theorem multsOf_any (n : Nat) (v : Value) (xs : List Int) (w : World) (h : IntsAt w v xs) (hS : IsSet n xs) :
    Calls Try.prog 27 #[.int .i64 (n : Nat), v] w fun e w' => ∃ u, e = .returned u ∧ Own w' w.heap.size 3 u (multL n xs) ∧ Below w.heap.size w w' := by
  have HV := Lib.hid h
  have HS := Lib.hid hS
  have hn1 := hS.lo; have hn2 := hS.hi
  have hl : (xs.length : Int) ≤ n := inc_len hS.rng hS.inc (by omega)
  have HCh : Hid (∀ (t s : Nat) w1, t ≤ 200 → s ≤ 200 → IntsAt w1 v xs → Calls Try.prog 12 #[.int .i64 (n : Nat), v, .int .i64 (t : Nat), .int .i64 (s : Nat)] w1 fun e w' => ∃ u, e = .returned u ∧ Own w' w1.heap.size 3 u (movL n t s xs) ∧ Below w1.heap.size w1 w') := fun t s w1 ht hs hv => shifted_any n t s v xs w1 hv hS ht hs
  obtain ⟨a, c, rfl, _⟩ := h
  clear hS
  go_enter Try.func27, Try.ntmps27
  go_wp2_with fail
  go_loopw [6, 5] (fun q l wr => ∃ (t : Nat) (z : Value), 1 ≤ t ∧ t ≤ n ∧ q = .int .i64 t ∧ l = z ∧ Own wr w.heap.size 3 z (pickL (mulT n xs) t) ∧ Below w.heap.size w wr) (fun q _ _ => n - (intOf q).toNat)
  case atStart => exact ⟨1, _, by omega, by omega, rfl, rfl, by rw [mulT_one]; exact own_nil _ _ _, Below.refl _ _⟩
  case round =>
    obtain ⟨t, z, ht1, htn, rfl, hz, hO, hB⟩ := hrel
    subst hz
    have HO := Lib.hid hO; have HB := Lib.hid hB
    have hsz := hB.size
    have hpl := pickL_len (mulT n xs) t
    obtain ⟨za, zl, zc, rfl⟩ := hO.shape
    clear hO hB
    by_cases hlt : t < n
    · by_cases hg : Nat.gcd t n = 1
      · have HG := Lib.hid hg
        have HD : Hid (∀ w1, Calls Try.prog 46 #[.int .i64 (t : Nat), .int .i64 (n : Nat)] w1 fun e w' => e = .returned (.int .i64 1) ∧ ∃ nd, w' = w1.drewN nd) := fun w1 => by
          have := common_any t n (by omega) (by omega) w1
          rw [hg] at this; exact this
        clear hg
        go_wp2_with fail
        refine (HD.out _).mono ?_
        rintro e w2 ⟨rfl, nd, rfl⟩
        have HC1' := Lib.hid (HCh.out t 0 (wr.drewN nd) (by omega) (by omega) (HV.out.below (below_drewN HB.out nd)))
        go_wp2_with fail
        refine (HC1'.out).mono ?_
        rintro e w2 ⟨u, rfl, hown, hb⟩
        clear HC1'
        have HB2 := Lib.hid (belowTrans (below_drewN HB.out nd) hb)
        have HO2 := Lib.hid (own_below (HO.out.drewN nd) hb)
        have HU : Hid (IntsAt w2 u (movL n t 0 xs)) := hown.intsAt (by rw [mov_len]; omega)
        obtain ⟨ua, ul, uc, rfl⟩ := hown.shape
        have hsz2 := HB2.out.size
        clear hown hb HO HB
        go_wp2_with fail
        go_loopw [10, 9] (fun q f wr2 => ∃ s : Nat, s ≤ n ∧ q = .int .i64 s ∧ f = .bool (anyS n xs t s) ∧ Below w2.heap.size w2 wr2) (fun q _ _ => n - (intOf q).toNat)
        case atStart => exact ⟨0, by omega, rfl, rfl, Below.refl _ _⟩
        case round =>
          obtain ⟨s, hs, rfl, rfl, hb⟩ := hrel
          have HB3 := Lib.hid (belowTrans HB2.out hb)
          have HU3 := Lib.hid (HU.out.below hb); have HO3 := Lib.hid (own_below HO2.out hb); have HBB := Lib.hid hb
          have hsz3 := HB3.out.size
          clear hb
          cases ea : anyS n xs t s
          · have HA := Lib.hid ea
            clear ea
            by_cases hsn : s < n
            · have HC2 := Lib.hid (HCh.out 1 s wr (by omega) (by omega) (HV.out.below HB3.out))
              go_wp2_with fail
              refine (HC2.out).mono ?_
              rintro e w4 ⟨u4, rfl, hown, hb⟩
              clear HC2
              have hU4 : IntsAt w4 u4 (movL n 1 s xs) := hown.intsAt (by rw [mov_len]; omega)
              have HE := Lib.hid (ints_any u4 _ _ _ w4 hU4 (HU3.out.below hb))
              have HBB4 := Lib.hid (belowTrans HBB.out hb)
              obtain ⟨ua4, ul4, uc4, rfl⟩ := hown.shape
              clear hown hb hU4 HO3 HB3 HBB HU3
              have HN := Lib.hid (anyS_next HA.out)
              generalize eqI (movL n 1 s xs) (movL n t 0 xs) = E at *
              go_wp2_with fail
              refine (HE.out).mono ?_
              rintro e w5 ⟨rfl, nd5, rfl⟩
              go_wp2_with fail
              go_roundw
              case rel => exact ⟨s + 1, by omega, by go_num, by rw [HN.out], below_drewN HBB4.out _⟩
              case measure => simp [intOf]; omega
            · obtain rfl : s = n := by omega
              have HN : Hid (mulT s xs t = false) := by show _ = _; rw [mulT_all ht1 HG.out, HA.out]
              go_wp2_with fail
              go_roundw
              case rel => exact ⟨t + 1, _, by omega, by omega, by go_num, rfl, by rw [pickL_no HN.out]; exact HO3.out, HB3.out⟩
              case measure => simp [intOf]; omega
          · have HN : Hid (mulT n xs t = true) := by show _ = _; rw [mulT_all ht1 HG.out]; exact anyS_up ea hs
            clear ea
            by_cases hsn : s < n
            all_goals
              first
                | go_wp2_with (at_builtin; refine app_own rfl _ _ rfl rfl (HO3.out.alloc _) _ _ rfl (World.cell?_alloc_new wr #[.int .i64 (t : Nat)] 3 0) (by omega) (by rw [World.size_alloc]; omega) ?_; intro v' w6 hown1 hgrow)
              have HO6 := Lib.hid hown1
              have HB6 := Lib.hid ((HB3.out.alloc hsz3 _).grown hgrow (by rw [World.size_alloc]; omega) (fun k hk => (HO3.out.block k hk).1))
              clear hown1 hgrow
              go_wp2_with fail
              go_roundw
              case rel => exact ⟨t + 1, _, by omega, by omega, by go_num, rfl, by rw [pickL_yes HN.out]; exact HO6.out, HB6.out⟩
              case measure => simp [intOf]; omega
      · have HN : Hid (mulT n xs t = false) := mulT_gcd hg
        have hgp : 0 < Nat.gcd t n := Nat.gcd_pos_of_pos_left _ ht1
        have HD := Lib.hid (common_any t n (by omega) (by omega))
        generalize Nat.gcd t n = G at *
        have e1 : (((G : Nat) : Int) != 1) = true := by simp; omega
        go_wp2_with fail
        refine (HD.out _).mono ?_
        rintro e w2 ⟨rfl, nd, rfl⟩
        go_wp2_with fail
        go_roundw
        case rel => exact ⟨t + 1, _, by omega, by omega, by go_num, rfl, by rw [pickL_no HN.out]; exact HO.out, below_drewN HB.out _⟩
        case measure => simp [intOf]; omega
    · obtain rfl : t = n := by omega
      go_wp2_with fail
      go_ret
      exact ⟨_, rfl, HO.out, HB.out⟩
end Go.Proofs.Ytnmgambilpoeiaa
