/-
  Contract: differ.changed. No condition.
  Contract: differ.Paley. No condition.
-/
import Derived.Test.YtdbfpdhcaiiiaaaDoorPDifferMade40
import Derived.Test.YtdbfpdhcaiiiaaaDoorPDifferMade38
import Derived.Test.YtdbfpdhcaiiiaaaDoorPDifferMade10
namespace Go.Proofs.YtdbfpdhcaiiiaaaDoor
open Go.RowKit

set_option maxRecDepth 100000 in
set_option maxHeartbeats 2000000 in
theorem changed_any (n t s : Nat) (v : Value) (xs : List Int) (w : World) (h : IntsAt w v xs) (hS : IsSet n xs) (ht : t ≤ 200) (hs : s ≤ 200) :
    Calls Tryd.prog 42 #[.int .i64 (n : Nat), v, .int .i64 (t : Nat), .int .i64 (s : Nat)] w fun e w' => ∃ u, e = .returned u ∧ Own w' w.heap.size 3 u (movL n t s xs) ∧ Below w.heap.size w w' := by
  have HS := Lib.hid hS
  have hn1 := hS.lo; have hn2 := hS.hi
  have hl : (xs.length : Int) ≤ n := inc_len hS.rng hS.inc (by omega)
  obtain ⟨a, c, rfl, h1, h2, _, h3⟩ := h
  have HX := Lib.hid h3; clear h3 hS
  go_enter Tryd.func42, Tryd.ntmps42
  go_wp2_with fail
  go_loopw [14, 9] (fun q l wr => ∃ (i : Nat) (z : Value), i ≤ xs.length ∧ q = .int .i64 i ∧ l = z ∧ Own wr w.heap.size 3 z (mvTo n t s xs i) ∧ Below w.heap.size w wr) (fun q _ _ => xs.length - (intOf q).toNat)
  case atStart => exact ⟨0, _, by omega, rfl, rfl, own_nil _ _ _, Below.refl _ _⟩
  case round =>
    obtain ⟨i, z, hi, rfl, hz, hO, hB⟩ := hrel
    subst hz
    have HO := Lib.hid hO; have HB := Lib.hid hB
    have hsz := hB.size
    have hml := mvTo_len (v := n) (g := t) (s := s) hi
    clear hO hB
    by_cases hlt : i < xs.length
    · obtain ⟨b, o, rfl, hb, hc⟩ := HX.out i hlt
      have hcell := hc i hlt
      rw [← (bcell HB.out).1 _ _ hb] at hcell
      clear hc
      have hr := HS.out.rng i hlt
      obtain ⟨x, hx⟩ := Int.eq_ofNat_of_zero_le hr.1
      have HM : Hid (mvTo n t s xs (i + 1) = mvTo n t s xs i ++ [((x : Int) * t + s) % (n : Int)]) := by show _ = _; rw [mvTo_succ hlt, hx]
      rw [hx] at hcell hr
      obtain ⟨hv1, hv2, hv3⟩ := mv_val (n := n) (t := t) (s := s) (x := x) (by omega) ht
      rw [← hv3] at HM
      have hm0 : ¬ n = 0 := by omega
      clear hx hv3
      obtain ⟨P, hP⟩ : ∃ P, P = x * t := ⟨_, rfl⟩
      rw [← hP] at hv1 hv2 HM
      have hw : IntKind.i64.wrap ((((P : Nat) : Int) + s) % (n : Int)) = (((P : Nat) : Int) + s) % (n : Int) := by
        have q1 : 0 ≤ (((P : Nat) : Int) + s) % (n : Int) := Int.emod_nonneg _ (by omega)
        have q2 : (((P : Nat) : Int) + s) % (n : Int) < n := Int.emod_lt_of_pos _ (by omega)
        exact IntWalk.i64_in _ (by omega)
      have HWr := Lib.hid hw
      clear hP hw
      go_wp2_with (at_builtin; refine app_own rfl _ _ rfl rfl (HO.out.alloc _) _ _ rfl (by rw [World.cell?_alloc_new]; rfl) (by omega) (by rw [World.size_alloc]; omega) ?_; intro v' w1 hown1 hgrow)
      have HO1 := Lib.hid hown1
      have HB1 := Lib.hid ((HB.out.alloc hsz _).grown hgrow (by rw [World.size_alloc]; omega) (fun k hk => (HO.out.block k hk).1))
      clear hown1 hgrow
      go_roundw
      case rel => exact ⟨i + 1, _, by omega, by go_num, rfl, by rw [HM.out]; exact HO1.out, HB1.out⟩
      case measure => simp [intOf]; omega
    · obtain rfl : i = xs.length := by omega
      have HSo := Lib.hid (sort_own HO.out (by omega))
      rw [mvTo_all] at HSo
      obtain ⟨za, zl, zc, rfl⟩ := HO.out.shape
      go_wp2_with fail
      refine (HSo.out).mono ?_
      rintro e w2 ⟨rfl, hown, hgr⟩
      have HO2 := Lib.hid hown
      have HB2 := Lib.hid (HB.out.grown hgr hsz (fun k hk => (HO.out.block k hk).1))
      clear hown hgr
      go_wp2_with fail
      go_ret
      exact ⟨_, rfl, HO2.out, HB2.out⟩
end Go.Proofs.YtdbfpdhcaiiiaaaDoor

namespace Go.Proofs.YtdbfpdhcaiiiaaaDoor
open Go.RowKit

/-- What is wrong with a number for Paley. -/
def palFault (p : Int) : Int := if p < 1 ∨ 60 < p then 1 else if palOk p.toNat then 0 else 4
/-- What Paley answers. -/
def palA (p : Int) : List Int := if palFault p = 0 then palI p.toNat else []
def PalPost (p : Int) (w : World) (e : Ending) (w' : World) : Prop := ∃ v, e = .returned (.tuple #[v, .int .i64 (palFault p)]) ∧ IntsAt w' v (palA p) ∧ Below w.heap.size w w'
theorem pal_no {p f : Int} (h : palFault p = f) (hf : f ≠ 0) {w w' : World} (hb : Below w.heap.size w w') : PalPost p w (.returned (.tuple #[.slice none 0 0, .int .i64 f])) w' :=
  ⟨_, by rw [h], by unfold palA; rw [if_neg (by rw [h]; exact hf)]; exact intsAt_nil _, hb⟩
theorem palFault_far {p : Int} (h : p < 1 ∨ 60 < p) : palFault p = 1 := by unfold palFault; rw [if_pos h]
theorem palFault_ok {n : Nat} (h1 : 1 ≤ n) (h2 : n ≤ 60) (h : palOk n = true) : palFault (n : Int) = 0 := by unfold palFault; rw [if_neg (by omega), Int.toNat_natCast, if_pos h]
theorem palFault_no {n : Nat} (h1 : 1 ≤ n) (h2 : n ≤ 60) (h : palOk n = false) : palFault (n : Int) = 4 := by unfold palFault; rw [if_neg (by omega), Int.toNat_natCast, if_neg (by rw [h]; simp)]
theorem palOk_p {n : Nat} (h : prB n = false) : palOk n = false := by unfold palOk; rw [h]; rfl
theorem palOk_m {n : Nat} (h : n % 4 ≠ 3) : palOk n = false := by unfold palOk; rw [Bool.and_eq_false_iff]; exact .inr (by simpa using h)
theorem palOk_y {n : Nat} (h : prB n = true) (h2 : n % 4 = 3) : palOk n = true := by unfold palOk; rw [h, h2]; rfl

set_option maxHeartbeats 1000000 in
theorem paley_far (p : Int) (w : World) (h : p < 1 ∨ 60 < p) :
    Calls Tryd.prog 15 #[.int .i64 p] w (PalPost p w) := by
  have HF := Lib.hid (palFault_far h)
  by_cases h1 : p < 1
  · have e1 : decide (p < 1) = true := by simpa using h1
    clear h h1
    go_enter Tryd.func15, Tryd.ntmps15
    go_wp2_with fail
    go_ret2
    exact pal_no HF.out (by omega) (Below.refl _ _)
  · have e1 : decide (p < 1) = false := by simpa using h1
    have e2 : decide (p > 60) = true := by simp; omega
    clear h h1
    go_enter Tryd.func15, Tryd.ntmps15
    go_wp2_with fail
    go_ret2
    exact pal_no HF.out (by omega) (Below.refl _ _)

set_option maxRecDepth 100000 in
set_option maxHeartbeats 2000000 in
theorem paley_in (n : Nat) (w : World) (h1 : 1 ≤ n) (h2 : n ≤ 60) :
    Calls Tryd.prog 15 #[.int .i64 (n : Int)] w (PalPost n w) := by
  have HPr := Lib.hid (fun W => primeD_any n h1 h2 W)
  have e1 : decide ((n : Int) < 1) = false := by simp; omega
  have e2 : decide ((n : Int) > 60) = false := by simp; omega
  by_cases hp : prB n = false
  · have HF := Lib.hid (palFault_no h1 h2 (palOk_p hp))
    rw [hp] at HPr
    clear hp
    go_enter Tryd.func15, Tryd.ntmps15
    go_wp2_with fail
    refine (HPr.out _).mono ?_
    rintro e w1 ⟨rfl, rfl⟩
    go_wp2_with fail
    go_ret2
    exact pal_no HF.out (by omega) (Below.refl _ _)
  · have hp : prB n = true := by simpa using hp
    rw [hp] at HPr
    by_cases hm : n % 4 = 3
    · have HOk := Lib.hid (palOk_y hp hm)
      have HF := Lib.hid (palFault_ok h1 h2 HOk.out)
      have e3 : (((n : Int) % 4) != 3) = false := by simp; omega
      clear hp
      go_enter Tryd.func15, Tryd.ntmps15
      go_wp2_with fail
      refine (HPr.out _).mono ?_
      rintro e w1 ⟨rfl, rfl⟩
      go_wp2_with fail
      go_loopw [4, 5] (fun l q wr => ∃ (i m : Nat) (z : Value), (i ≤ n / 2 ∧ m = i + 1) ∧ q = .int .i64 m ∧ l = z ∧ Own wr w.heap.size 3 z (palTo n i) ∧ Below w.heap.size w wr) (fun _ q _ => n / 2 + 2 - (intOf q).toNat)
      case atStart => exact ⟨0, 1, _, by omega, rfl, rfl, own_nil _ _ _, Below.refl _ _⟩
      case round =>
        obtain ⟨i, m, z, ⟨hi, hmi⟩, rfl, hz, hO, hB⟩ := hrel
        subst hz
        have HO := Lib.hid hO; have HB := Lib.hid hB
        have hsz := hB.size
        have hml := palTo_len n i
        clear hO hB
        by_cases hlt : i < n / 2
        · have HM := Lib.hid (palTo_succ n i)
          obtain ⟨hv, hqb⟩ := sqr_val (q := m) (by omega)
          rw [← hmi] at HM
          have HMi := Lib.hid hmi
          have hm1 : 1 ≤ m ∧ m ≤ n / 2 := by omega
          clear hmi
          have hm0 : ¬ n = 0 := by omega
          obtain ⟨P, hP⟩ : ∃ P, P = m * m := ⟨_, rfl⟩
          rw [← hP] at hv hqb HM
          have hw : IntKind.i64.wrap ((P : Nat) % (n : Int)) = ((P % n : Nat) : Int) := by
            rw [← Int.natCast_emod]
            have := Nat.mod_lt P (show n > 0 by omega)
            exact IntWalk.i64_in _ (by omega)
          clear hP
          go_wp2_with (at_builtin; refine app_own rfl _ _ rfl rfl (HO.out.alloc _) _ _ rfl (by rw [World.cell?_alloc_new]; rfl) (by omega) (by rw [World.size_alloc]; omega) ?_; intro v' w1 hown1 hgrow)
          have HO1 := Lib.hid hown1
          have HB1 := Lib.hid ((HB.out.alloc hsz _).grown hgrow (by rw [World.size_alloc]; omega) (fun k hk => (HO.out.block k hk).1))
          clear hown1 hgrow
          go_roundw
          case rel => exact ⟨i + 1, m + 1, _, by have := HMi.out; omega, by go_num, rfl, by rw [← HMi.out, HM.out]; exact HO1.out, HB1.out⟩
          case measure => simp [intOf]; omega
        · obtain rfl : i = n / 2 := by omega
          have HSo := Lib.hid (sort_own HO.out (by omega))
          rw [pal_sort h2 HOk.out] at HSo
          obtain ⟨za, zl, zc, rfl⟩ := HO.out.shape
          go_wp2_with fail
          refine (HSo.out).mono ?_
          rintro e w2 ⟨rfl, hown, hgr⟩
          have HO2 := Lib.hid hown
          have HB2 := Lib.hid (HB.out.grown hgr hsz (fun k hk => (HO.out.block k hk).1))
          clear hown hgr
          go_wp2_with fail
          go_ret2
          exact ⟨.slice za zl zc, by rw [HF.out]; rfl, by unfold palA; rw [if_pos HF.out, Int.toNat_natCast]; exact Own.intsAt HO2.out (by rw [← pal_sort h2 HOk.out, sortI_len, palTo_len]; omega), HB2.out⟩
    · have HF := Lib.hid (palFault_no h1 h2 (palOk_m hm))
      have e3 : (((n : Int) % 4) != 3) = true := by simp; omega
      clear hp hm
      go_enter Tryd.func15, Tryd.ntmps15
      go_wp2_with fail
      refine (HPr.out _).mono ?_
      rintro e w1 ⟨rfl, rfl⟩
      go_wp2_with fail
      go_ret2
      exact pal_no HF.out (by omega) (Below.refl _ _)
theorem paley_any (p : Int) (w : World) : Calls Tryd.prog 15 #[.int .i64 p] w (PalPost p w) := by
  by_cases h : p < 1 ∨ 60 < p
  · exact paley_far p w h
  · obtain ⟨n, rfl⟩ := Int.eq_ofNat_of_zero_le (show 0 ≤ p by omega)
    exact paley_in n w (by omega) (by omega)
end Go.Proofs.YtdbfpdhcaiiiaaaDoor
