/-
  Contract: differ.Multipliers. No condition.
-/
import Derived.Test.YtnmgambilpoeiaaChanged
import Derived.Test.YtnmgambilpoeiaaMultL
import Derived.Test.YtnmgambilpoeiaaGcd
import Derived.Test.YtnmgambilpoeiaaEqual
import Derived.Test.YtnmgambilpoeiaaOwnL
import Derived.Test.YtnmgambilpoeiaaDCheck
namespace Go.Proofs.Ytnmgambilpoeiaa
open Go.RowKit

set_option maxRecDepth 100000 in
set_option maxHeartbeats 1000000 in
theorem mults_bad (n : Int) (v : Value) (xs : List Int) (w : World) (h : IntsAt w v xs) (hf : setFault n xs ≠ 0) :
    Calls Try.prog 25 #[.int .i64 n, v] w fun e w' => e = .returned (.tuple #[.slice none 0 0, .int .i64 (setFault n xs)]) ∧ Below w.heap.size w w' := by
  have hne : (setFault n xs != 0) = true := by simpa using hf
  have HC := Lib.hid (dcheck_any n v xs w h)
  obtain ⟨a, c, rfl, _⟩ := h
  clear hf
  generalize setFault n xs = e0 at *
  go_enter Try.func25, Try.ntmps25
  go_wp2_with fail
  refine (HC.out).mono ?_
  rintro e w1 ⟨rfl, hb⟩
  have HB := Lib.hid hb; clear hb
  go_wp2_with fail
  go_ret2
  exact ⟨rfl, HB.out⟩

set_option maxRecDepth 100000 in
set_option maxHeartbeats 2000000 in
theorem mults_ok (n : Nat) (v : Value) (xs : List Int) (w : World) (h : IntsAt w v xs) (hS : IsSet n xs) :
    Calls Try.prog 25 #[.int .i64 (n : Nat), v] w fun e w' => ∃ u, e = .returned (.tuple #[u, .int .i64 0]) ∧ Own w' w.heap.size 3 u (multL n xs) ∧ Below w.heap.size w w' := by
  have HV := Lib.hid h
  have HS := Lib.hid hS
  have HC := Lib.hid (dcheck_any n v xs w h)
  rw [hS.fault] at HC
  have hn1 := hS.lo; have hn2 := hS.hi
  have hl : (xs.length : Int) ≤ n := inc_len hS.rng hS.inc (by omega)
  have HCh : Hid (∀ (t s : Nat) w1, t ≤ 200 → s ≤ 200 → IntsAt w1 v xs → Calls Try.prog 44 #[.int .i64 (n : Nat), v, .int .i64 (t : Nat), .int .i64 (s : Nat)] w1 fun e w' => ∃ u, e = .returned u ∧ Own w' w1.heap.size 3 u (movL n t s xs) ∧ Below w1.heap.size w1 w') := fun t s w1 ht hs hv => changed_any n t s v xs w1 hv hS ht hs
  obtain ⟨a, c, rfl, _⟩ := h
  clear hS
  go_enter Try.func25, Try.ntmps25
  go_wp2_with fail
  refine (HC.out).mono ?_
  rintro e w0 ⟨rfl, hb⟩
  have HB0 := Lib.hid hb; clear hb
  have hsz0 := HB0.out.size
  go_wp2_with fail
  go_loopw [8, 7] (fun q l wr => ∃ (t : Nat) (z : Value), 1 ≤ t ∧ t ≤ n ∧ q = .int .i64 t ∧ l = z ∧ Own wr w.heap.size 3 z (pickL (mulT n xs) t) ∧ Below w.heap.size w wr) (fun q _ _ => n - (intOf q).toNat)
  case atStart => exact ⟨1, _, by omega, by omega, rfl, rfl, by rw [mulT_one]; exact own_nil _ _ _, HB0.out⟩
  case round =>
    clear HB0 hsz0
    obtain ⟨t, z, ht1, htn, rfl, hz, hO, hB⟩ := hrel
    subst hz
    have HO := Lib.hid hO; have HB := Lib.hid hB
    have hsz := hB.size
    have hpl := pickL_len (mulT n xs) t
    obtain ⟨za, zl, zc, rfl⟩ := hO.shape
    clear hO hB
    by_cases hlt : t < n
    · by_cases hg : Nat.gcd t n = 1
      · have HG := Lib.hid hg
        have HD : Hid (∀ w1, Calls Try.prog 43 #[.int .i64 (t : Nat), .int .i64 (n : Nat)] w1 fun e w' => e = .returned (.int .i64 1) ∧ ∃ nd, w' = w1.drewN nd) := fun w1 => by
          have := divisor_any t n (by omega) (by omega) w1
          rw [hg] at this; exact this
        clear hg
        go_wp2_with fail
        refine (HD.out _).mono ?_
        rintro e w2 ⟨rfl, nd, rfl⟩
        have HC1 := HCh.out t 0 (wr.drewN nd) (by omega) (by omega) (HV.out.below (below_drewN HB.out nd))
        have HC1' := Lib.hid HC1; clear HC1
        go_wp2_with fail
        refine (HC1'.out).mono ?_
        rintro e w2 ⟨u, rfl, hown, hb⟩
        clear HC1'
        have HB2 := Lib.hid (belowTrans (below_drewN HB.out nd) hb)
        have HO2 := Lib.hid (own_below (HO.out.drewN nd) hb)
        have HU : Hid (IntsAt w2 u (movL n t 0 xs)) := hown.intsAt (by rw [mov_len]; omega)
        obtain ⟨ua, ul, uc, rfl⟩ := hown.shape
        have hsz2 := HB2.out.size
        clear hown hb HO HB
        go_wp2_with fail
        go_loopw [31, 7] (fun q l wr2 => ∃ s : Nat, s ≤ n ∧ q = .int .i64 s ∧ l = .slice za zl zc ∧ anyS n xs t s = false ∧ Below w2.heap.size w2 wr2) (fun q _ _ => n - (intOf q).toNat)
        case atStart => exact ⟨0, by omega, rfl, rfl, rfl, Below.refl _ _⟩
        case round =>
          obtain ⟨s, hs, rfl, rfl, ha, hb⟩ := hrel
          have HA := Lib.hid ha; have HB3 := Lib.hid (belowTrans HB2.out hb)
          have HU3 := Lib.hid (HU.out.below hb); have HO3 := Lib.hid (own_below HO2.out hb); have HBB := Lib.hid hb
          clear ha hb
          by_cases hsn : s < n
          · have HC2 := Lib.hid (HCh.out 1 s wr (by omega) (by omega) (HV.out.below HB3.out))
            go_wp2_with fail
            refine (HC2.out).mono ?_
            rintro e w4 ⟨u4, rfl, hown, hb⟩
            clear HC2
            have hU4 : IntsAt w4 u4 (movL n 1 s xs) := hown.intsAt (by rw [mov_len]; omega)
            have HE := Lib.hid (equal_any _ u4 _ _ w4 (HU3.out.below hb) hU4)
            have HO4 := Lib.hid (own_below HO3.out hb)
            have HB4 := Lib.hid (belowTrans HB3.out hb)
            have HBB4 := Lib.hid (belowTrans HBB.out hb)
            have hsz4 := HB4.out.size
            obtain ⟨ua4, ul4, uc4, rfl⟩ := hown.shape
            rw [eqI_comm] at HE
            clear hown hb hU4 HO3 HB3 HBB HU3
            cases ee : eqI (movL n 1 s xs) (movL n t 0 xs)
            · have HN : Hid (anyS n xs t (s + 1) = false) := by show _ = _; rw [anyS_next HA.out, ee]
              rw [ee] at HE
              clear ee
              go_wp2_with fail
              refine (HE.out).mono ?_
              rintro e w5 ⟨rfl, nd5, rfl⟩
              go_wp2_with fail
              go_roundw
              case rel => exact ⟨s + 1, by omega, by go_num, rfl, HN.out, below_drewN HBB4.out _⟩
              case measure => simp [intOf]; omega
            · have HN : Hid (mulT n xs t = true) := mulT_hit ht1 HG.out hsn ee
              rw [ee] at HE
              clear ee
              go_wp2_with fail
              refine (HE.out).mono ?_
              rintro e w5 ⟨rfl, nd5, rfl⟩
              go_wp2_with (at_builtin; go_loud (refine app_own rfl _ _ rfl rfl ((HO4.out.drewN _).alloc _) _ _ rfl (World.cell?_alloc_new (w4.drewN nd5) #[.int .i64 (t : Nat)] 3 0) (by omega) (by rw [World.size_alloc]; show w.heap.size ≤ w4.heap.size + 1; omega) ?_; intro v' w6 hown1 hgrow))
              have HO6 := Lib.hid hown1
              have HB6 := Lib.hid (((below_drewN HB4.out _).alloc hsz4 _).grown hgrow (by rw [World.size_alloc]; show w.heap.size ≤ w4.heap.size + 1; omega) (fun k hk => (HO4.out.block k hk).1))
              clear hown1 hgrow
              go_wp2_with fail
              go_roundw
              case rel => exact ⟨t + 1, _, by omega, by omega, by go_num, rfl, by rw [pickL_yes HN.out]; exact HO6.out, HB6.out⟩
              case measure => simp [intOf]; omega
          · obtain rfl : s = n := by omega
            have HN : Hid (mulT s xs t = false) := by show _ = _; rw [mulT_all ht1 HG.out, HA.out]
            go_wp2_with fail
            go_roundw
            case rel => exact ⟨t + 1, _, by omega, by omega, by go_num, rfl, by rw [pickL_no HN.out]; exact HO3.out, HB3.out⟩
            case measure => simp [intOf]; omega
      · have HN : Hid (mulT n xs t = false) := mulT_gcd hg
        have hgp : 0 < Nat.gcd t n := Nat.gcd_pos_of_pos_left _ ht1
        have HD := Lib.hid (divisor_any t n (by omega) (by omega))
        generalize Nat.gcd t n = G at *
        have e1 : decide ((1 : Int) < (G : Int)) = true := by simp; omega
        go_wp2_with fail
        refine (HD.out _).mono ?_
        rintro e w2 ⟨rfl, nd, rfl⟩
        go_wp2_with fail
        go_roundw
        case rel => exact ⟨t + 1, _, by omega, by omega, by go_num, rfl, by rw [pickL_no HN.out]; exact HO.out, below_drewN HB.out _⟩
        case measure => simp [intOf]; omega
    · obtain rfl : t = n := by omega
      go_wp2_with fail
      go_ret2
      exact ⟨_, rfl, HO.out, HB.out⟩
end Go.Proofs.Ytnmgambilpoeiaa
