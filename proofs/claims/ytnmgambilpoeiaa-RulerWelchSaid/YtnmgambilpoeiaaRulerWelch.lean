/-
  The walk of RulerWelch: it returns true, and what there was is as it was. No condition.
-/
import Derived.Test.YtnmgambilpoeiaaRulerFact
import Derived.Test.YtnmgambilpoeiaaWelchLaw
import Derived.Test.YtnmgambilpoeiaaInvCos
import Derived.Test.YtnmgambilpoeiaaPermRev
namespace Go.Proofs.Ytnmgambilpoeiaa
open Go.RowKit

theorem cost_inv {xs : List Int} (h : permF xs = 0) : costB (invL xs) = costB xs ∧ permF (invL xs) = 0 := by
  have hp := permF_iff.1 h
  have h2 := permF_iff.2 hp.inv
  unfold costB
  rw [h, h2, cosB_inv hp]
  exact ⟨rfl, rfl⟩
theorem cost_rev {xs : List Int} (h : permF xs = 0) : costB xs.reverse = costB xs ∧ permF xs.reverse = 0 := by
  have hp := permF_iff.1 h
  have h2 := permF_iff.2 hp.rev
  unfold costB
  rw [h, h2, cosB_rev xs]
  exact ⟨rfl, rfl⟩
theorem cost_no {xs : List Int} (h : permF xs ≠ 0) : costB xs = false := by unfold costB; simp [h]
/-- The last k, the last one first. -/
def backTo (xs : List Int) (k : Nat) : List Int := xs.reverse.take k
theorem backTo_succ {xs : List Int} {k : Nat} (h : k < xs.length) : backTo xs (k + 1) = backTo xs k ++ [ix xs (xs.length - 1 - k)] := by
  unfold backTo; rw [take_succ_ix (by simpa using h), ix_rev h]
theorem backTo_len {xs : List Int} {k : Nat} (h : k ≤ xs.length) : (backTo xs k).length = k := by unfold backTo; rw [List.length_take, List.length_reverse]; omega
theorem backTo_all (xs : List Int) : backTo xs xs.length = xs.reverse := by unfold backTo; rw [List.take_of_length_le (by simp)]

theorem welch_yes (p r : Int) (w : World) (h : wOk p r) (hn : nodB (wl p r (p - 1).toNat) = true) :
    Calls Try.prog 16 #[.int .i64 p, .int .i64 r] w fun e w' => ∃ (v : Value) (ys : List Int), e = .returned (.tuple #[v, .int .i64 0]) ∧ IntsAt w' v ys ∧ costB ys = true ∧ permF ys = 0 ∧ Below w.heap.size w w' := by
  refine (welch_any p r w).mono ?_
  intro e w' hp
  obtain ⟨hb, hp⟩ := hp
  rw [if_pos h, hn] at hp
  obtain ⟨v, rfl, hI⟩ := hp
  obtain ⟨h1, h2⟩ := welch_costas h hn
  exact ⟨v, _, rfl, hI, by unfold costB; rw [h1, h2]; rfl, h1, hb⟩
theorem welch_none (p r : Int) (w : World) (h : wOk p r) (hn : nodB (wl p r (p - 1).toNat) = false) :
    Calls Try.prog 16 #[.int .i64 p, .int .i64 r] w fun e w' => e = .returned (.tuple #[.slice none 0 0, .int .i64 4]) ∧ Below w.heap.size w w' := by
  refine (welch_any p r w).mono ?_
  intro e w' hp
  obtain ⟨hb, hp⟩ := hp
  rw [if_pos h, if_neg (by rw [hn]; exact Bool.false_ne_true)] at hp
  exact ⟨hp, hb⟩
theorem welch_range (p r : Int) (w : World) (h : ¬ wOk p r) :
    Calls Try.prog 16 #[.int .i64 p, .int .i64 r] w fun e w' => e = .returned (.tuple #[.slice none 0 0, .int .i64 1]) ∧ Below w.heap.size w w' := by
  refine (welch_any p r w).mono ?_
  intro e w' hp
  obtain ⟨hb, hp⟩ := hp
  rw [if_neg h] at hp
  exact ⟨hp, hb⟩
theorem costas_of {v : Value} {xs : List Int} {w : World} (h : IntsAt w v xs) {b : Bool} (hb : costB xs = b) {z : Int} (hz : permF xs = z) :
    Calls Try.prog 14 #[v] w fun e w' => e = .returned (.tuple #[.bool b, .int .i64 z]) ∧ Below w.heap.size w w' := by
  subst hb; subst hz
  exact costasC_any v xs w h

set_option maxRecDepth 100000 in
set_option maxHeartbeats 2000000 in
theorem rulerWelch_walk (p r : Int) (v : Value) (xs : List Int) (w : World) (_ : -9223372036854775808 ≤ p ∧ p ≤ 9223372036854775807) (_ : -9223372036854775808 ≤ r ∧ r ≤ 9223372036854775807)
    (h : IntsAt w v xs) (_ : Fits xs) :
    Calls Try.prog 5 #[.int .i64 p, .int .i64 r, v] w fun e w' => e = .returned (.bool true) ∧ Below w.heap.size w w' := by
  have HI := Lib.hid h
  obtain ⟨a, c, hv, _⟩ := h
  subst hv
  have hch : (wOk p r ∧ nodB (wl p r (p - 1).toNat) = true) ∨ (wOk p r ∧ nodB (wl p r (p - 1).toNat) = false) ∨ ¬ wOk p r := by
    by_cases h1 : wOk p r
    · cases h2 : nodB (wl p r (p - 1).toNat)
      · exact .inr (.inl ⟨h1, rfl⟩)
      · exact .inl ⟨h1, rfl⟩
    · exact .inr (.inr h1)
  by_cases h0 : permF xs = 0
  · obtain ⟨B, hB⟩ : ∃ B, costB xs = B := ⟨_, rfl⟩
    have HB0 := Lib.hid hB
    have H0 := Lib.hid h0
    have hl := (permF_rng h0).1
    have HInv : Hid (costB (invL xs) = B ∧ permF (invL xs) = 0) := by obtain ⟨e1, e2⟩ := cost_inv h0; exact ⟨e1.trans hB, e2⟩
    have HRev : Hid (costB xs.reverse = B ∧ permF xs.reverse = 0) := by obtain ⟨e1, e2⟩ := cost_rev h0; exact ⟨e1.trans hB, e2⟩
    clear h0 hB
    rcases hch with hw | hw | hw
    have HW := Lib.hid hw
    clear hw
    go_enter Try.func5, Try.ntmps5
    go_wp2_with fail
    refine (rulerFact_any _).mono ?_
    rintro e w1 ⟨rfl, hb⟩
    have H1 := Lib.hid hb; clear hb
    go_wp2_with fail
    refine (welch_yes p r _ HW.out.1 HW.out.2).mono ?_
    rintro e w2 ⟨u, ys, rfl, hI, hc1, hc2, hb⟩
    have H2 := Lib.hid (belowTrans H1.out hb); clear hb
    have HY := Lib.hid hI
    have HC1 := Lib.hid hc1; have HC2 := Lib.hid hc2
    obtain ⟨ua, uc, hu, _⟩ := hI
    subst hu
    clear hc1 hc2 H1
    go_wp2_with fail
    refine (costas_of HY.out HC1.out HC2.out).mono ?_
    rintro e w3 ⟨rfl, hb⟩
    have H3 := Lib.hid (belowTrans H2.out hb); clear hb HC1 HC2 HY H2
    go_wp2_with fail
    rotate_left
    have HW := Lib.hid hw
    clear hw
    go_enter Try.func5, Try.ntmps5
    go_wp2_with fail
    refine (rulerFact_any _).mono ?_
    rintro e w1 ⟨rfl, hb⟩
    have H1 := Lib.hid hb; clear hb
    go_wp2_with fail
    refine (welch_none p r _ HW.out.1 HW.out.2).mono ?_
    rintro e w3 ⟨rfl, hb⟩
    have H3 := Lib.hid (belowTrans H1.out hb); clear hb H1
    go_wp2_with fail
    rotate_left
    have HW := Lib.hid hw
    clear hw
    go_enter Try.func5, Try.ntmps5
    go_wp2_with fail
    refine (rulerFact_any _).mono ?_
    rintro e w1 ⟨rfl, hb⟩
    have H1 := Lib.hid hb; clear hb
    go_wp2_with fail
    refine (welch_range p r _ HW.out).mono ?_
    rintro e w3 ⟨rfl, hb⟩
    have H3 := Lib.hid (belowTrans H1.out hb); clear hb H1
    go_wp2_with fail
    rotate_left
    all_goals
      clear HW
      refine (costas_of (HI.out.below H3.out) HB0.out H0.out).mono ?_
      rintro e w4 ⟨rfl, hb⟩
      have H4 := Lib.hid (belowTrans H3.out hb); clear hb H3
      go_wp2_with fail
      refine (inverseC_any _ _ _ (HI.out.below H4.out) H0.out).mono ?_
      rintro e w5 ⟨u5, rfl, hI5, hb⟩
      have H5 := Lib.hid (belowTrans H4.out hb)
      have HI5 := Lib.hid hI5
      obtain ⟨a5, c5, hu5, _⟩ := hI5
      subst hu5
      clear hb H4
      go_wp2_with fail
      go_loopw [14, 15] (fun so si wr => ∃ (m : Nat) (z : Value), m ≤ xs.length ∧ si = .int .i64 ((m : Int) - 1) ∧ so = z ∧ Own wr w5.heap.size 3 z (backTo xs (xs.length - m)) ∧ Below w5.heap.size w5 wr) (fun _ si _ => (intOf si + 1).toNat)
      case atStart => exact ⟨xs.length, _, by omega, rfl, rfl, by rw [Nat.sub_self]; exact own_nil _ _ _, Below.refl _ _⟩
      case round =>
        obtain ⟨m, z, hm, rfl, hz, ho, hb⟩ := hrel
        subst hz
        have HO := Lib.hid ho; have HB := Lib.hid hb
        clear ho hb
        have hw5 := HB.out.size
        have hbl := backTo_len (xs := xs) (k := xs.length - m) (by omega)
        cases m with
        | zero =>
          rw [Nat.sub_zero, backTo_all] at HO
          have HOI := Lib.hid (HO.out.intsAt (by rw [List.length_reverse]; omega))
          obtain ⟨za, zl, zc, hzz⟩ := HO.out.shape
          subst hzz
          clear hbl
          go_wp2_with fail
          refine (costas_of (HI5.out.below HB.out) HInv.out.1 HInv.out.2).mono ?_
          rintro e w6 ⟨rfl, hb⟩
          have H6 := Lib.hid (belowTrans (belowTrans H5.out HB.out) hb)
          have HOJ := Lib.hid (HOI.out.below hb)
          clear hb
          go_wp2_with fail
          refine (costas_of HOJ.out HRev.out.1 HRev.out.2).mono ?_
          rintro e w7 ⟨rfl, hb⟩
          have H7 := Lib.hid (belowTrans H6.out hb)
          clear hb
          go_wp2_with fail
          go_ret
          exact ⟨ret_bool (by simp), H7.out⟩
        | succ m =>
          have e1 : (((m + 1 : Nat) : Int) - 1) = (m : Int) := by omega
          rw [e1]
          have hlt : m < xs.length := by omega
          obtain ⟨_, _, hv, _, _, _, h5⟩ := HI.out
          injection hv with hv1 _ hv2
          subst hv1; subst hv2
          obtain ⟨b, o, rfl, hbb, hcc⟩ := h5 m hlt
          have hcell := hcc m hlt
          rw [← (bcell (belowTrans H5.out HB.out)).1 _ _ hbb] at hcell
          have HM : Hid (backTo xs (xs.length - m) = backTo xs (xs.length - (m + 1)) ++ [ix xs m]) := by
            show _ = _
            have e2 : xs.length - m = xs.length - (m + 1) + 1 := by omega
            rw [e2, backTo_succ (by omega)]
            congr 3; omega
          have hlen9 : (backTo xs (xs.length - (m + 1))).length < 1000000000 := by omega
          have HLn := Lib.hid hlen9
          clear hcc h5 e1 hlen9 hbl
          go_wp2_with (at_builtin; refine app_own rfl _ _ rfl rfl (HO.out.alloc _) _ _ rfl (by rw [World.cell?_alloc_new]; rfl) HLn.out (by rw [World.size_alloc]; omega) ?_; intro v' w6 hown1 hgrow)
          have HO1 := Lib.hid hown1
          have HB1 := Lib.hid ((HB.out.alloc hw5 _).grown hgrow (by rw [World.size_alloc]; omega) (fun k hk => (HO.out.block k hk).1))
          clear hown1 hgrow
          go_roundw
          case rel => exact ⟨m, _, by omega, by go_num, rfl, by rw [HM.out]; exact HO1.out, HB1.out⟩
          case measure => simp [intOf]
  · have H0 := Lib.hid h0
    have HN := Lib.hid (cost_no h0)
    have hne : (permF xs != 0) = true := by simpa using h0
    clear h0
    rcases hch with hw | hw | hw
    have HW := Lib.hid hw
    clear hw
    go_enter Try.func5, Try.ntmps5
    go_wp2_with fail
    refine (rulerFact_any _).mono ?_
    rintro e w1 ⟨rfl, hb⟩
    have H1 := Lib.hid hb; clear hb
    go_wp2_with fail
    refine (welch_yes p r _ HW.out.1 HW.out.2).mono ?_
    rintro e w2 ⟨u, ys, rfl, hI, hc1, hc2, hb⟩
    have H2 := Lib.hid (belowTrans H1.out hb); clear hb
    have HY := Lib.hid hI
    have HC1 := Lib.hid hc1; have HC2 := Lib.hid hc2
    obtain ⟨ua, uc, hu, _⟩ := hI
    subst hu
    clear hc1 hc2 H1
    go_wp2_with fail
    refine (costas_of HY.out HC1.out HC2.out).mono ?_
    rintro e w3 ⟨rfl, hb⟩
    have H3 := Lib.hid (belowTrans H2.out hb); clear hb HC1 HC2 HY H2
    go_wp2_with fail
    rotate_left
    have HW := Lib.hid hw
    clear hw
    go_enter Try.func5, Try.ntmps5
    go_wp2_with fail
    refine (rulerFact_any _).mono ?_
    rintro e w1 ⟨rfl, hb⟩
    have H1 := Lib.hid hb; clear hb
    go_wp2_with fail
    refine (welch_none p r _ HW.out.1 HW.out.2).mono ?_
    rintro e w3 ⟨rfl, hb⟩
    have H3 := Lib.hid (belowTrans H1.out hb); clear hb H1
    go_wp2_with fail
    rotate_left
    have HW := Lib.hid hw
    clear hw
    go_enter Try.func5, Try.ntmps5
    go_wp2_with fail
    refine (rulerFact_any _).mono ?_
    rintro e w1 ⟨rfl, hb⟩
    have H1 := Lib.hid hb; clear hb
    go_wp2_with fail
    refine (welch_range p r _ HW.out).mono ?_
    rintro e w3 ⟨rfl, hb⟩
    have H3 := Lib.hid (belowTrans H1.out hb); clear hb H1
    go_wp2_with fail
    rotate_left
    all_goals
      refine (costas_of (HI.out.below H3.out) HN.out rfl).mono ?_
      rintro e w4 ⟨rfl, hb⟩
      have H4 := Lib.hid (belowTrans H3.out hb); clear hb H3
      go_wp2_with fail
      go_ret
      exact ⟨rfl, H4.out⟩
end Go.Proofs.Ytnmgambilpoeiaa
