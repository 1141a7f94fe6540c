/-
  Contract: the reference's WelchOf. No condition.
-/
import Derived.Test.YtnmgambilpoeiaaWelch
import Derived.Test.YtnmgambilpoeiaaPrimeX
import Derived.Test.YtnmgambilpoeiaaLies
namespace Go.Proofs.Ytnmgambilpoeiaa
open Go.RowKit

theorem prI_small {p : Int} (h1 : ¬ p < 3) (h2 : ¬ 13 < p) : prI p = true ↔ (p = 3 ∨ p = 5 ∨ p = 7 ∨ p = 11 ∨ p = 13) := by
  obtain ⟨n, rfl⟩ := Int.eq_ofNat_of_zero_le (show 0 ≤ p by omega)
  have : n = 3 ∨ n = 4 ∨ n = 5 ∨ n = 6 ∨ n = 7 ∨ n = 8 ∨ n = 9 ∨ n = 10 ∨ n = 11 ∨ n = 12 ∨ n = 13 := by omega
  rcases this with rfl | rfl | rfl | rfl | rfl | rfl | rfl | rfl | rfl | rfl | rfl <;> decide +kernel

set_option maxRecDepth 100000 in
set_option maxHeartbeats 2000000 in
theorem welchOf_any (p r : Int) (w : World) : Calls Try.prog 17 #[.int .i64 p, .int .i64 r] w (WelchPost p r w) := by
  by_cases hk : wOk p r
  · have HK := Lib.hid hk
    obtain ⟨hp, hr1, hr2⟩ := hk
    have hpp : 3 ≤ p ∧ p ≤ 13 := by omega
    obtain ⟨hp3, hp13⟩ := hpp
    have hp1 : 1 < p := by omega
    obtain ⟨m, hm⟩ : ∃ m : Nat, (p - 1).toNat = m := ⟨_, rfl⟩
    have HM : Hid (∀ e w', (Below w.heap.size w w' ∧ (if nodB (wl p r m) then ∃ v, e = .returned (.tuple #[v, .int .i64 0]) ∧ IntsAt w' v (wl p r m) else e = .returned (.tuple #[.slice none 0 0, .int .i64 4]))) → WelchPost p r w e w') := by
      intro e w' h
      unfold WelchPost
      rw [if_pos HK.out, hm]; exact h
    have HP : Hid (prI p = true) := (prI_small (by omega) (by omega)).2 hp
    have HC := Lib.hid (primeX_any p w)
    rw [HP.out] at HC
    have hmp : p = (m : Int) + 1 := by omega
    have hm12 : m ≤ 12 := by omega
    have d1 : decide (p < 3) = false := by simp; omega
    have d2 : decide (13 < p) = false := by simp; omega
    have d3 : decide (r < 1) = false := by simp; omega
    have d4 : decide (p ≤ r) = false := by simp; omega
    clear hm hp
    have HMP := Lib.hid hmp
    clear hmp
    go_enter Try.func17, Try.ntmps17
    go_wp2_with fail
    refine (HC.out).mono ?_
    rintro e w' ⟨rfl, rfl⟩
    go_wp2_with fail
    clear d1 d2 d3 d4
    go_loopw [7, 8, 9] (fun so sn si wr => ∃ (k : Nat) (v : Value), k ≤ m ∧ so = v ∧ sn = .int .i64 (xw p r k) ∧ si = .int .i64 k ∧ nodB (wl p r k) = true ∧ Own wr w.heap.size 3 v (wl p r k) ∧ Below w.heap.size w wr) (fun _ _ si _ => m - (intOf si).toNat)
    case atStart => exact ⟨0, _, by omega, rfl, rfl, rfl, rfl, own_nil _ _ _, Below.refl _ _⟩
    case round =>
      obtain ⟨k, v, hkm, hso, rfl, rfl, hn, ho, hb⟩ := hrel
      subst hso
      have HN := Lib.hid hn; have HO := Lib.hid ho; have HB := Lib.hid hb
      have HI := Lib.hid (ho.intsAt (by rw [wl_len]; omega))
      obtain ⟨va, vc, hv, _⟩ := HI.out
      rw [wl_len] at hv
      subst hv
      clear hn ho hb
      by_cases hlt : k < m
      · obtain ⟨x, hx⟩ : ∃ x, x = xw p r k := ⟨_, rfl⟩
        have hxr := xw_rng hp1 (r := r) k
        rw [← hx] at hxr
        have hXS : Hid (xw p r (k + 1) = x * r % p) := by show _ = _; rw [xw, hx]
        have hX1 : Hid (wl p r (k + 1) = wl p r k ++ [x - 1]) := by show _ = _; rw [wl, hx]
        have hlt2 : (k : Int) < p - 1 := by have := HMP.out; omega
        have hp0 : ¬ p = 0 := by omega
        have hxr1 : 0 ≤ x * r := Int.mul_nonneg hxr.1 (by omega)
        have hxr2 : x * r ≤ 13 * 13 := Int.mul_le_mul (by omega) (by omega) (by omega) (by omega)
        have HCt := Lib.hid (lies_any (x - 1) _ _ wr HI.out)
        have HX := Lib.hid hx
        rw [← hx]
        clear hx
        cases em : mem (wl p r k) (x - 1)
        · have Hm := Lib.hid em
          rw [em] at HCt
          clear em
          have hlen9 : (wl p r k).length < 1000000000 := by rw [wl_len]; omega
          have HLn := Lib.hid hlen9; clear hlen9
          have HO2 := Lib.hid (HO.out.alloc (.cells #[.int .i64 (x - 1)] 3))
          have Hne := Lib.hid (World.cell?_alloc_new wr #[.int .i64 (x - 1)] 3 0)
          have Hbz : Hid (w.heap.size ≤ (wr.alloc (.cells #[.int .i64 (x - 1)] 3)).heap.size) := Nat.le_trans HB.out.size (below_box wr _).size
          go_wp2_with (first
            | (go_at_call 11; refine (HCt.out).mono ?_; rintro e w' ⟨rfl, rfl⟩)
            | (at_builtin; go_must (refine app_own rfl _ _ rfl rfl HO2.out wr.heap.size (x - 1) rfl Hne.out HLn.out Hbz.out ?_; intro v' w1 hown1 hgrow)))
          have HB1 : Hid (Below w.heap.size w w1) := (HB.out.trans (((Below.refl _ _).alloc HB.out.size _).grown hgrow Hbz.out (fun q hq => (HO.out.block q hq).1)))
          have HOn : Hid (Own w1 w.heap.size 3 v' (wl p r (k + 1))) := by rw [hX1.out]; exact hown1
          clear hown1 hgrow
          go_roundw
          case rel => exact ⟨k + 1, _, by omega, rfl, by rw [hXS.out], by go_num, by rw [hX1.out, nodB_snoc, HN.out, Hm.out]; rfl, HOn.out, HB1.out⟩
          case measure => simp [intOf]; omega
        · have Hbad : Hid (nodB (wl p r m) = false) := wl_hit hlt (by rw [← HX.out]; exact em)
          rw [em] at HCt
          clear em
          go_wp2_with (go_at_call 11; refine (HCt.out).mono ?_; rintro e w' ⟨rfl, rfl⟩)
          go_ret2
          exact HM.out _ _ ⟨HB.out, by rw [Hbad.out]; rfl⟩
      · obtain rfl : k = m := by omega
        have hge : ¬ ((k : Int) < p - 1) := by have := HMP.out; omega
        go_wp2_with fail
        go_ret2
        exact HM.out _ _ ⟨HB.out, by rw [HN.out]; exact ⟨_, rfl, HI.out⟩⟩
  · have HM : Hid (∀ e w', (Below w.heap.size w w' ∧ e = .returned (.tuple #[.slice none 0 0, .int .i64 1])) → WelchPost p r w e w') := by
      intro e w' h
      unfold WelchPost
      rw [if_neg hk]; exact h
    have HC := Lib.hid (primeX_any p w)
    by_cases h1 : p < 3
    · have d1 : decide (p < 3) = true := by simpa using h1
      clear h1 hk
      generalize prI p = B at *
      go_enter Try.func17, Try.ntmps17
      go_wp2_with fail
      refine (HC.out).mono ?_
      rintro e w' ⟨rfl, rfl⟩
      go_wp2_with fail
      go_ret2
      exact HM.out _ _ ⟨Below.refl _ _, rfl⟩
    · have d1 : decide (p < 3) = false := by simpa using h1
      by_cases h2 : 13 < p
      · have d2 : decide (13 < p) = true := by simpa using h2
        clear h1 h2 hk
        generalize prI p = B at *
        go_enter Try.func17, Try.ntmps17
        go_wp2_with fail
        refine (HC.out).mono ?_
        rintro e w' ⟨rfl, rfl⟩
        go_wp2_with fail
        go_ret2
        exact HM.out _ _ ⟨Below.refl _ _, rfl⟩
      · have d2 : decide (13 < p) = false := by simpa using h2
        cases hP : prI p
        · rw [hP] at HC
          clear h1 h2 hk hP
          go_enter Try.func17, Try.ntmps17
          go_wp2_with fail
          refine (HC.out).mono ?_
          rintro e w' ⟨rfl, rfl⟩
          go_wp2_with fail
          go_ret2
          exact HM.out _ _ ⟨Below.refl _ _, rfl⟩
        · rw [hP] at HC
          have hp5 := (prI_small h1 h2).1 hP
          by_cases h3 : r < 1
          · have d3 : decide (r < 1) = true := by simpa using h3
            clear h1 h2 h3 hk hP hp5
            go_enter Try.func17, Try.ntmps17
            go_wp2_with fail
            refine (HC.out).mono ?_
            rintro e w' ⟨rfl, rfl⟩
            go_wp2_with fail
            go_ret2
            exact HM.out _ _ ⟨Below.refl _ _, rfl⟩
          · have d3 : decide (r < 1) = false := by simpa using h3
            have h4 : p ≤ r := by
              refine Classical.byContradiction fun hc => hk ⟨hp5, by omega, by omega⟩
            have d4 : decide (p ≤ r) = true := by simpa using h4
            clear h1 h2 h3 h4 hk hP hp5
            go_enter Try.func17, Try.ntmps17
            go_wp2_with fail
            refine (HC.out).mono ?_
            rintro e w' ⟨rfl, rfl⟩
            go_wp2_with fail
            go_ret2
            exact HM.out _ _ ⟨Below.refl _ _, rfl⟩
end Go.Proofs.Ytnmgambilpoeiaa
