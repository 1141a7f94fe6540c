/-
  The law DifferOther, walked: it returns true whatever the numbers. No condition.
-/
import Derived.Test.YtnmgambilpoeiaaDifFact
import Derived.Test.YtnmgambilpoeiaaShifted
import Derived.Test.YtnmgambilpoeiaaLies
namespace Go.Proofs.Ytnmgambilpoeiaa
open Go.RowKit

set_option maxRecDepth 100000 in
set_option maxHeartbeats 1000000 in
theorem dother_bad (n : Int) (v : Value) (xs : List Int) (t s : Int) (w : World) (h : IntsAt w v xs) (hf : difE n xs ≠ 0) :
    Calls Try.prog 3 #[.int .i64 n, v, .int .i64 t, .int .i64 s] w fun e w' => e = .returned (.bool true) ∧ Below w.heap.size w w' := by
  have HV := Lib.hid h
  have HL : Hid (∀ w1, IntsAt w1 v xs → Calls Try.prog 10 #[.int .i64 n, v] w1 (DifPost (difL n xs) (difE n xs) w1)) := fun w1 hw => dlevel_any n v xs w1 hw
  have hne : (difE n xs != 0) = true := by simpa using hf
  obtain ⟨a, c, rfl, _⟩ := h
  clear hf
  generalize difE n xs = e0 at *
  generalize difL n xs = l0 at *
  go_enter Try.func3, Try.ntmps3
  go_wp2_with fail
  refine (differFact_any _).mono ?_
  rintro e w1 ⟨rfl, hb⟩
  have HB1 := Lib.hid hb; clear hb
  go_wp2_with fail
  refine (HL.out _ (HV.out.below HB1.out)).mono ?_
  rintro e w2 ⟨rfl, hb⟩
  have HB2 := Lib.hid (belowTrans HB1.out hb); clear hb
  go_wp2_with fail
  go_ret
  exact ⟨rfl, HB2.out⟩

theorem tmod_lo {a : Int} {x : Nat} (h : 0 < x) : -(x : Int) < a.tmod x := by
  rcases Int.le_total 0 a with h1 | h1
  · have := Int.tmod_nonneg (x : Int) h1; omega
  · have h2 := Int.tmod_nonneg (x : Int) (show 0 ≤ -a by omega)
    have h3 := Int.tmod_lt_of_pos (-a) (show (0 : Int) < x by omega)
    rw [Int.neg_tmod] at h2 h3; omega
theorem tmod_hi {a : Int} {x : Nat} (h : 0 < x) : a.tmod x < (x : Int) := Int.tmod_lt_of_pos a (by omega)
/-- No divisor of both from 2 on: they have none. -/
theorem coprime_of {g v : Nat} (hv : 0 < v) (h : ∀ x, 2 ≤ x → x ≤ v → ¬ (v % x = 0 ∧ g % x = 0)) : Nat.gcd g v = 1 := by
  have h1 : Nat.gcd g v ∣ g := Nat.gcd_dvd_left _ _
  have h2 : Nat.gcd g v ∣ v := Nat.gcd_dvd_right _ _
  have h3 : 0 < Nat.gcd g v := Nat.pos_of_dvd_of_pos h2 hv
  refine Classical.byContradiction fun hne => ?_
  exact h (Nat.gcd g v) (by omega) (Nat.le_of_dvd hv h2) ⟨Nat.mod_eq_zero_of_dvd h2, Nat.mod_eq_zero_of_dvd h1⟩

set_option maxRecDepth 100000 in
set_option maxHeartbeats 2000000 in
theorem dother_ok (n l : Nat) (v : Value) (xs : List Int) (t s : Int) (w : World) (h : IntsAt w v xs) (hD : DLev n xs l) (_ht : -9223372036854775808 ≤ t ∧ t ≤ 9223372036854775807) (_hs : -9223372036854775808 ≤ s ∧ s ≤ 9223372036854775807) :
    Calls Try.prog 3 #[.int .i64 (n : Nat), v, .int .i64 t, .int .i64 s] w fun e w' => e = .returned (.bool true) ∧ Below w.heap.size w w' := by
  have HV := Lib.hid h
  have HD := Lib.hid hD
  have hn1 := hD.set.lo; have hn2 := hD.set.hi
  have hl : (xs.length : Int) ≤ n := inc_len hD.set.rng hD.set.inc (by omega)
  have HL : Hid (∀ w1, IntsAt w1 v xs → Calls Try.prog 10 #[.int .i64 (n : Nat), v] w1 (DifPost l 0 w1)) := fun w1 hw => by
    have := dlevel_any n v xs w1 hw
    rw [hD.ok.1, hD.ok.2] at this; exact this
  obtain ⟨m, hm, hmv⟩ := hD.rest
  have HLr : Hid (∀ u w1, IntsAt w1 u (restL n xs) → Calls Try.prog 10 #[.int .i64 (n : Nat), u] w1 (DifPost m 0 w1)) := fun u w1 hw => by
    have := dlevel_any n u _ w1 hw
    rw [hm.ok.1, hm.ok.2] at this; exact this
  have HMV := Lib.hid hmv
  have hlb : l ≤ 60 := by
    by_cases h1 : n = 1
    · rw [hD.one h1]; omega
    · have e := hD.all 1 (by omega) (by omega)
      have : dif n xs 1 ≤ sumL (List.range n) (fun _ => 1) := sumL_le fun x _ => by
        have h1 := ind_nonneg (mem xs (x : Int)); have h2 := ind_le (mem xs (x : Int)); have h3 := ind_le (mem xs (((x + 1) % n : Nat) : Int)); have h4 := ind_nonneg (mem xs (((x + 1) % n : Nat) : Int))
        unfold ch
        have := Int.mul_le_mul h2 h3 h4 (by decide)
        omega
      rw [sumL_const, List.length_range] at this
      omega
  have hmb : m ≤ 200 := by
    by_cases h1 : n = 1
    · rw [hm.one h1]; omega
    · have := hmv (by omega); omega
  obtain ⟨a, c, rfl, _⟩ := h
  clear hD hm hmv
  go_enter Try.func3, Try.ntmps3
  go_wp2_with fail
  refine (differFact_any _).mono ?_
  rintro e w1 ⟨rfl, hb⟩
  have HB1 := Lib.hid hb; clear hb
  go_wp2_with fail
  refine (HL.out _ (HV.out.below HB1.out)).mono ?_
  rintro e w2 ⟨rfl, hb⟩
  have HB2 := Lib.hid (belowTrans HB1.out hb); clear hb
  go_wp2_with fail
  go_loopw [13, 12] (fun q l wr => ∃ (x : Nat) (z : Value), x ≤ n ∧ q = .int .i64 x ∧ l = z ∧ Own wr w2.heap.size 3 z (pickL (fun y => !mem xs (y : Int)) x) ∧ Below w2.heap.size w2 wr) (fun q _ _ => n - (intOf q).toNat)
  case atStart => exact ⟨0, _, by omega, rfl, rfl, own_nil _ _ _, Below.refl _ _⟩
  case round =>
    obtain ⟨x, z, hx, rfl, hz, hO, hB⟩ := hrel
    subst hz
    have HO := Lib.hid hO; have HB := Lib.hid hB
    have hsz := hB.size
    have hpl := pickL_len (fun y => !mem xs (y : Int)) x
    clear hO hB
    by_cases hxn : x < n
    · have HC := Lib.hid (lies_any (x : Int) _ xs wr (HV.out.below (belowTrans HB2.out HB.out)))
      cases em : mem xs (x : Int)
      · rw [em] at HC
        have Hp : Hid ((fun y : Nat => !mem xs (y : Int)) x = true) := by show _ = _; simp [em]
        clear em
        go_wp2_with fail
        refine (HC.out).mono ?_
        rintro e w3 ⟨rfl, rfl⟩
        go_wp2_with (at_builtin; refine app_own rfl _ _ rfl rfl (HO.out.alloc _) _ _ rfl (by rw [World.cell?_alloc_new]; rfl) (by omega) (by rw [World.size_alloc]; omega) ?_; intro v' w1 hown1 hgrow)
        have HO1 := Lib.hid hown1
        have HB1' := Lib.hid ((HB.out.alloc hsz _).grown hgrow (by rw [World.size_alloc]; omega) (fun k hk => (HO.out.block k hk).1))
        clear hown1 hgrow
        go_roundw
        case rel => exact ⟨x + 1, _, by omega, by go_num, rfl, by rw [pickL_yes Hp.out]; exact HO1.out, HB1'.out⟩
        case measure => simp [intOf]; omega
      · rw [em] at HC
        have Hp : Hid ((fun y : Nat => !mem xs (y : Int)) x = false) := by show _ = _; simp [em]
        clear em
        go_wp2_with fail
        refine (HC.out).mono ?_
        rintro e w3 ⟨rfl, rfl⟩
        go_wp2_with fail
        go_roundw
        case rel => exact ⟨x + 1, _, by omega, by go_num, rfl, by rw [pickL_no Hp.out]; exact HO.out, HB.out⟩
        case measure => simp [intOf]; omega
    · obtain rfl : x = n := by omega
      have HI : Hid (IntsAt wr _ (restL x xs)) := HO.out.intsAt (by omega)
      have HLs := Lib.hid (HLr.out _ wr HI.out)
      have HBx := Lib.hid (belowTrans HB2.out HB.out)
      obtain ⟨za, zl, zc, rfl⟩ := HO.out.shape
      clear HL HLr HI HB HO
      have e2 : wrap64 (2 * ((xs.length : Nat) : Int)) = 2 * ((xs.length : Nat) : Int) := IntWalk.wrap64_in _ (by omega)
      go_wp2_with fail
      refine (HLs.out).mono ?_
      rintro e w3 ⟨rfl, hb⟩
      have HB3 := Lib.hid (belowTrans HBx.out hb)
      clear hb HLs HBx
      by_cases h1 : 1 < x
      · have d1 : decide (1 < x) = true := by simpa using h1
        have d1' : decide ((1 : Int) < (x : Int)) = true := by simp; omega
        have hmv := HMV.out h1
        have d2 : (((m : Nat) : Int) != (x : Int) - 2 * ((xs.length : Nat) : Int) + (l : Int)) = false := by rw [hmv]; simp
        clear hmv h1
        obtain ⟨G, hG⟩ := Int.eq_ofNat_of_zero_le (show 0 ≤ t.tmod (x : Int) + x by have := tmod_lo (a := t) (show 0 < x by omega); omega)
        have hG2 : G < 2 * x := by have := tmod_hi (a := t) (show 0 < x by omega); omega
        obtain ⟨S, hSs⟩ := Int.eq_ofNat_of_zero_le (show 0 ≤ s.tmod (x : Int) + x by have := tmod_lo (a := s) (show 0 < x by omega); omega)
        have hS2 : S < 2 * x := by have := tmod_hi (a := s) (show 0 < x by omega); omega
        have VG : Value.int .i64 (wrap64 (t.tmod (x : Int) + (x : Int))) = Value.int .i64 (G : Nat) := by rw [hG, IntWalk.wrap64_in _ (by omega)]
        have VS : Value.int .i64 (wrap64 (s.tmod (x : Int) + (x : Int))) = Value.int .i64 (S : Nat) := by rw [hSs, IntWalk.wrap64_in _ (by omega)]
        have hx0 : ¬ x = 0 := by omega
        have HVS := Lib.hid VS
        clear hG hSs VS
        clear e2
        go_wp2_with fail
        rw [VG]
        clear VG
        go_loop [17] (fun s => ∃ q : Nat, 2 ≤ q ∧ (q ≤ x + 1 ∨ q = 2) ∧ s = .int .i64 q ∧ ∀ y, 2 ≤ y → y < q → ¬ (x % y = 0 ∧ G % y = 0)) (fun s => x + 2 - (intOf s).toNat)
        case atStart => exact ⟨2, by omega, .inr rfl, rfl, fun y h1 h2 => by omega⟩
        case round =>
          obtain ⟨q, hq1, hq2, rfl, hno⟩ := hrel
          have HNo := Lib.hid hno
          clear hno
          by_cases hqx : q ≤ x
          · have hq0 : ¬ q = 0 := by omega
            by_cases g1 : x % q = 0
            · have e1 : (((x : Nat) : Int) % ((q : Nat) : Int) == 0) = true := by simp; omega
              by_cases g2 : G % q = 0
              · have e2 : (((G : Nat) : Int) % ((q : Nat) : Int) == 0) = true := by simp; omega
                clear g1 g2
                go_wp2_with fail
                go_ret
                exact ⟨rfl, HB3.out⟩
              · have e2 : (((G : Nat) : Int) % ((q : Nat) : Int) == 0) = false := by simp; omega
                have H2 := Lib.hid g2
                clear g1 g2
                go_wp2_with fail
                go_round
                case rel => exact ⟨q + 1, by omega, .inl (by omega), by go_num, fun y h1 h2 => by
                  by_cases e : y = q
                  · subst e; exact fun h => H2.out h.2
                  · exact HNo.out y h1 (by omega)⟩
                case measure => simp [intOf]; omega
            · have e1 : (((x : Nat) : Int) % ((q : Nat) : Int) == 0) = false := by simp; omega
              have H2 := Lib.hid g1
              clear g1
              go_wp2_with fail
              go_round
              case rel => exact ⟨q + 1, by omega, .inl (by omega), by go_num, fun y h1 h2 => by
                by_cases e : y = q
                · subst e; exact fun h => H2.out h.1
                · exact HNo.out y h1 (by omega)⟩
              case measure => simp [intOf]; omega
          · have hgcd := coprime_of (g := G) (show 0 < x by omega) (fun y h1 h2 => HNo.out y h1 (by omega))
            have hmvd := HD.out.mov (g := G) (s := S) hgcd
            have HSh := Lib.hid (shifted_any x G S _ xs w3 (HV.out.below HB3.out) HD.out.set (by omega) (by omega))
            have HLm : Hid (∀ u w1, IntsAt w1 u (movL x G S xs) → Calls Try.prog 10 #[.int .i64 (x : Nat), u] w1 (DifPost l 0 w1)) := fun u w1 hw => by
              have := dlevel_any x u _ w1 hw
              rw [hmvd.ok.1, hmvd.ok.2] at this; exact this
            clear hgcd hmvd
            go_wp2_with fail
            rw [HVS.out]
            refine (HSh.out).mono ?_
            rintro e w4 ⟨u, rfl, hown, hb⟩
            have HI4 := Lib.hid (hown.intsAt (by rw [mov_len]; omega))
            have HB4 := Lib.hid (belowTrans HB3.out hb)
            obtain ⟨ua, ul, uc, rfl⟩ := hown.shape
            clear hown hb
            go_wp2_with fail
            refine (HLm.out _ _ HI4.out).mono ?_
            rintro e w5 ⟨rfl, hb⟩
            have HB5 := Lib.hid (belowTrans HB4.out hb)
            clear hb
            go_wp2_with fail
            go_ret
            exact ⟨rfl, HB5.out⟩
      · have d1 : decide (1 < x) = false := by simpa using h1
        have d1' : decide ((1 : Int) < (x : Int)) = false := by simp; omega
        clear h1
        obtain ⟨G, hG⟩ := Int.eq_ofNat_of_zero_le (show 0 ≤ t.tmod (x : Int) + x by have := tmod_lo (a := t) (show 0 < x by omega); omega)
        have hG2 : G < 2 * x := by have := tmod_hi (a := t) (show 0 < x by omega); omega
        obtain ⟨S, hSs⟩ := Int.eq_ofNat_of_zero_le (show 0 ≤ s.tmod (x : Int) + x by have := tmod_lo (a := s) (show 0 < x by omega); omega)
        have hS2 : S < 2 * x := by have := tmod_hi (a := s) (show 0 < x by omega); omega
        have VG : Value.int .i64 (wrap64 (t.tmod (x : Int) + (x : Int))) = Value.int .i64 (G : Nat) := by rw [hG, IntWalk.wrap64_in _ (by omega)]
        have VS : Value.int .i64 (wrap64 (s.tmod (x : Int) + (x : Int))) = Value.int .i64 (S : Nat) := by rw [hSs, IntWalk.wrap64_in _ (by omega)]
        have hx0 : ¬ x = 0 := by omega
        have HVS := Lib.hid VS
        clear hG hSs VS
        clear e2
        go_wp2_with fail
        rw [VG]
        clear VG
        go_loop [17] (fun s => ∃ q : Nat, 2 ≤ q ∧ (q ≤ x + 1 ∨ q = 2) ∧ s = .int .i64 q ∧ ∀ y, 2 ≤ y → y < q → ¬ (x % y = 0 ∧ G % y = 0)) (fun s => x + 2 - (intOf s).toNat)
        case atStart => exact ⟨2, by omega, .inr rfl, rfl, fun y h1 h2 => by omega⟩
        case round =>
          obtain ⟨q, hq1, hq2, rfl, hno⟩ := hrel
          have HNo := Lib.hid hno
          clear hno
          by_cases hqx : q ≤ x
          · have hq0 : ¬ q = 0 := by omega
            by_cases g1 : x % q = 0
            · have e1 : (((x : Nat) : Int) % ((q : Nat) : Int) == 0) = true := by simp; omega
              by_cases g2 : G % q = 0
              · have e2 : (((G : Nat) : Int) % ((q : Nat) : Int) == 0) = true := by simp; omega
                clear g1 g2
                go_wp2_with fail
                go_ret
                exact ⟨rfl, HB3.out⟩
              · have e2 : (((G : Nat) : Int) % ((q : Nat) : Int) == 0) = false := by simp; omega
                have H2 := Lib.hid g2
                clear g1 g2
                go_wp2_with fail
                go_round
                case rel => exact ⟨q + 1, by omega, .inl (by omega), by go_num, fun y h1 h2 => by
                  by_cases e : y = q
                  · subst e; exact fun h => H2.out h.2
                  · exact HNo.out y h1 (by omega)⟩
                case measure => simp [intOf]; omega
            · have e1 : (((x : Nat) : Int) % ((q : Nat) : Int) == 0) = false := by simp; omega
              have H2 := Lib.hid g1
              clear g1
              go_wp2_with fail
              go_round
              case rel => exact ⟨q + 1, by omega, .inl (by omega), by go_num, fun y h1 h2 => by
                by_cases e : y = q
                · subst e; exact fun h => H2.out h.1
                · exact HNo.out y h1 (by omega)⟩
              case measure => simp [intOf]; omega
          · have hgcd := coprime_of (g := G) (show 0 < x by omega) (fun y h1 h2 => HNo.out y h1 (by omega))
            have hmvd := HD.out.mov (g := G) (s := S) hgcd
            have HSh := Lib.hid (shifted_any x G S _ xs w3 (HV.out.below HB3.out) HD.out.set (by omega) (by omega))
            have HLm : Hid (∀ u w1, IntsAt w1 u (movL x G S xs) → Calls Try.prog 10 #[.int .i64 (x : Nat), u] w1 (DifPost l 0 w1)) := fun u w1 hw => by
              have := dlevel_any x u _ w1 hw
              rw [hmvd.ok.1, hmvd.ok.2] at this; exact this
            clear hgcd hmvd
            go_wp2_with fail
            rw [HVS.out]
            refine (HSh.out).mono ?_
            rintro e w4 ⟨u, rfl, hown, hb⟩
            have HI4 := Lib.hid (hown.intsAt (by rw [mov_len]; omega))
            have HB4 := Lib.hid (belowTrans HB3.out hb)
            obtain ⟨ua, ul, uc, rfl⟩ := hown.shape
            clear hown hb
            go_wp2_with fail
            refine (HLm.out _ _ HI4.out).mono ?_
            rintro e w5 ⟨rfl, hb⟩
            have HB5 := Lib.hid (belowTrans HB4.out hb)
            clear hb
            go_wp2_with fail
            go_ret
            exact ⟨rfl, HB5.out⟩

theorem differOther_walk (n : Int) (v : Value) (xs : List Int) (t s : Int) (w : World) (_hn : -9223372036854775808 ≤ n ∧ n ≤ 9223372036854775807) (h : IntsAt w v xs) (_hx : Fits xs) (ht : -9223372036854775808 ≤ t ∧ t ≤ 9223372036854775807) (hs : -9223372036854775808 ≤ s ∧ s ≤ 9223372036854775807) :
    Calls Try.prog 3 #[.int .i64 n, v, .int .i64 t, .int .i64 s] w fun e w' => e = .returned (.bool true) ∧ Below w.heap.size w w' := by
  by_cases hf : difE n xs = 0
  · obtain ⟨N, l, rfl, hl, hD⟩ := dlev_ok hf
    exact dother_ok N l v xs t s w h hD ht hs
  · exact dother_bad n v xs t s w h hf
end Go.Proofs.Ytnmgambilpoeiaa
