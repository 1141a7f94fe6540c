/-
  Contract: differ.isPrime, of numbers that a ring holds. No condition.
  Paley's sets: the squares of a prime, made and asked for, are one: reckoned, for the primes that a ring holds. No program in sight. No condition.
  Contract: differ.Paley. No condition.
  Contract: the reference's PaleyOf. No condition.
  What the condition on the table of primes gives: its cells. No condition but that.
  The walk of DifferMakes: whatever the arguments, it returns true. No condition but that the table of primes reads as it is laid.
-/
import Derived.Test.YtdbfpdhcaiiiaaaDoorPDifferMakes8
import Derived.Test.YtdbfpdhcaiiiaaaDoorPDifferMakes1
import Derived.Test.YtdbfpdhcaiiiaaaDoorPDifferMakes3
import Derived.Test.YtdbfpdhcaiiiaaaDoorPDifferMakes4
import Derived.Test.YtdbfpdhcaiiiaaaDoorRows
import Derived.ProofKit
import Derived.LaidMore
import Derived.OpenShut
import Derived.Lib.LaidTab
import Derived.Stop.Joined
import Derived.Test.YtdbfpdhcaiiiaaaDoorPDifferMakes7
import Derived.Test.YtdbfpdhcaiiiaaaDoorPDifferMakes18
import Derived.Test.YtdbfpdhcaiiiaaaDoorPDifferMakes2
namespace Go.Proofs.YtdbfpdhcaiiiaaaDoor
open Go.RowKit

set_option maxHeartbeats 1000000 in
theorem primeD_any (n : Nat) (h1 : 1 ≤ n) (hn : n ≤ 60) (w : World) :
    Calls Tryd.prog 37 #[.int .i64 (n : Int)] w fun e w' => e = .returned (.bool (prB n)) ∧ w = w' := by
  have HN : Hid (1 ≤ n ∧ n ≤ 60) := ⟨h1, hn⟩
  go_enter Tryd.func37, Tryd.ntmps37
  go_wp2
  go_loop [3] (fun s => ∃ q : Nat, 2 ≤ q ∧ q ≤ 61 ∧ s = .int .i64 q ∧ ∀ d, 2 ≤ d → d < q → n % d ≠ 0) (fun s => 64 - (intOf s).toNat)
  case atStart => exact ⟨2, by omega, by omega, rfl, fun d h1 h2 => by omega⟩
  case round =>
    obtain ⟨q, hq1, hq2, rfl, hno⟩ := hrel
    have HNo := Lib.hid hno
    clear hno
    obtain ⟨hv, hqb⟩ := sqr_val (q := q) (by omega)
    have hq0 : ¬ q = 0 := by omega
    have H1 : Hid (n < q * q → prB n = decide (n > 1)) := fun h => by
      show _ = _
      by_cases h2 : 2 ≤ n
      · rw [prB_yes ⟨h2, by have := HN.out; omega⟩ h HNo.out, decide_eq_true (by omega)]
      · rw [prB_far (by omega), decide_eq_false (by omega)]
    have H2 : Hid (q * q ≤ n → n % q = 0 → prB n = false) := fun h h' => prB_hit hq1 h h'
    have H3 : Hid (q * q ≤ n → q ≤ 60) := fun h => by
      have := HN.out
      have := Nat.mul_le_mul (Nat.le_refl q) hq1
      omega
    obtain ⟨P, hP⟩ : ∃ P, P = q * q := ⟨_, rfl⟩
    rw [← hP] at hv hqb H1 H2 H3
    clear hP
    by_cases hle : P ≤ n
    · have h316 := H3.out hle
      by_cases hd : n % q = 0
      · have HF := Lib.hid (H2.out hle hd)
        have e1 : (((n : Nat) : Int) % ((q : Nat) : Int) == 0) = true := by simp; omega
        clear hd
        go_wp2
        go_ret
        exact ⟨ret_bool HF.out.symm, rfl⟩
      · have e1 : (((n : Nat) : Int) % ((q : Nat) : Int) == 0) = false := by simp; omega
        have HD := Lib.hid hd
        clear hd
        go_wp2
        go_round
        case rel => exact ⟨q + 1, by omega, by omega, by go_num, fun d h1 h2 => by
          by_cases e : d = q
          · subst e; exact HD.out
          · exact HNo.out d h1 (by omega)⟩
        case measure => simp [intOf]; omega
    · have HR := Lib.hid (H1.out (by omega))
      by_cases hg : 1 < n
      · have e1 : decide ((n : Int) > 1) = true := by simp; omega
        have HR2 : Hid (prB n = true) := by show _ = _; rw [HR.out]; exact decide_eq_true hg
        go_wp2
        go_ret
        exact ⟨ret_bool HR2.out.symm, rfl⟩
      · have e1 : decide ((n : Int) > 1) = false := by simp; omega
        have HR2 : Hid (prB n = false) := by show _ = _; rw [HR.out]; exact decide_eq_false (by omega)
        go_wp2
        go_ret
        exact ⟨ret_bool HR2.out.symm, rfl⟩
end Go.Proofs.YtdbfpdhcaiiiaaaDoor

namespace Go.Proofs.YtdbfpdhcaiiiaaaDoor
open Go.RowKit

/-- The squares of 1 .. k. -/
def palN (p k : Nat) : List Nat := (List.range k).map fun i => (i + 1) * (i + 1) % p
def palTo (p k : Nat) : List Int := (palN p k).map fun x => ((x : Nat) : Int)
theorem palTo_succ (p k : Nat) : palTo p (k + 1) = palTo p k ++ [(((k + 1) * (k + 1) % p : Nat) : Int)] := by
  unfold palTo palN; rw [List.range_succ, List.map_append, List.map_append]; rfl
theorem palTo_len (p k : Nat) : (palTo p k).length = k := by simp [palTo, palN]
/-- Is a number the square of one of 1 .. m? -/
def sqU (p x : Nat) : Nat → Bool
  | 0 => false
  | m + 1 => sqU p x m || ((m + 1) * (m + 1) % p == x)
def sqB (p x : Nat) : Bool := decide (1 ≤ x) && sqU p x (p - 1)
/-- The squares, rising. -/
def palI (p : Nat) : List Int := pickL (sqB p) p
/-- Has Paley a set? -/
def palOk (p : Nat) : Bool := prB p && p % 4 == 3
def palCk (p : Nat) : Bool := ((List.range p).all fun x => (palN p (p / 2)).contains x == sqB p x) && ((palN p (p / 2)).all (· < p) && decide (palN p (p / 2)).Nodup)
theorem palCk_all : ((List.range 61).all fun p => !palOk p || palCk p) = true := by decide +kernel
theorem pal_sort {p : Nat} (h : p ≤ 60) (hP : palOk p = true) : sortI (palTo p (p / 2)) = palI p := by
  have h1 := List.all_eq_true.1 palCk_all p (List.mem_range.2 (by omega))
  rw [hP, Bool.not_true, Bool.false_or] at h1
  unfold palCk at h1
  simp only [Bool.and_eq_true, decide_eq_true_eq, List.all_eq_true, List.mem_range, beq_iff_eq] at h1
  obtain ⟨ha, hb, hc⟩ := h1
  refine rise_pick (sortI_lt ?_) (fun x hx => ?_) fun j hj => ?_
  · unfold palTo
    rw [List.Nodup, List.pairwise_map]
    exact hc.imp fun h => by omega
  · rw [sortI_mem] at hx
    unfold palTo at hx
    obtain ⟨y, hy, rfl⟩ := List.mem_map.1 hx
    have := hb y hy
    omega
  · rw [sortI_mem, ← ha j hj]
    unfold palTo
    rw [List.contains_iff_mem, List.mem_map]
    constructor
    · exact fun h => ⟨j, h, rfl⟩
    · rintro ⟨y, hy, e⟩
      obtain rfl : y = j := by omega
      exact hy
end Go.Proofs.YtdbfpdhcaiiiaaaDoor

namespace Go.Proofs.YtdbfpdhcaiiiaaaDoor
open Go.RowKit

/-- What is wrong with a number for Paley. -/
def palFault (p : Int) : Int := if p < 1 ∨ 60 < p then 1 else if palOk p.toNat then 0 else 4
/-- What Paley answers. -/
def palA (p : Int) : List Int := if palFault p = 0 then palI p.toNat else []
def PalPost (p : Int) (w : World) (e : Ending) (w' : World) : Prop := ∃ v, e = .returned (.tuple #[v, .int .i64 (palFault p)]) ∧ IntsAt w' v (palA p) ∧ Below w.heap.size w w'
theorem pal_no {p f : Int} (h : palFault p = f) (hf : f ≠ 0) {w w' : World} (hb : Below w.heap.size w w') : PalPost p w (.returned (.tuple #[.slice none 0 0, .int .i64 f])) w' :=
  ⟨_, by rw [h], by unfold palA; rw [if_neg (by rw [h]; exact hf)]; exact intsAt_nil _, hb⟩
theorem palFault_far {p : Int} (h : p < 1 ∨ 60 < p) : palFault p = 1 := by unfold palFault; rw [if_pos h]
theorem palFault_ok {n : Nat} (h1 : 1 ≤ n) (h2 : n ≤ 60) (h : palOk n = true) : palFault (n : Int) = 0 := by unfold palFault; rw [if_neg (by omega), Int.toNat_natCast, if_pos h]
theorem palFault_no {n : Nat} (h1 : 1 ≤ n) (h2 : n ≤ 60) (h : palOk n = false) : palFault (n : Int) = 4 := by unfold palFault; rw [if_neg (by omega), Int.toNat_natCast, if_neg (by rw [h]; simp)]
theorem palOk_p {n : Nat} (h : prB n = false) : palOk n = false := by unfold palOk; rw [h]; rfl
theorem palOk_m {n : Nat} (h : n % 4 ≠ 3) : palOk n = false := by unfold palOk; rw [Bool.and_eq_false_iff]; exact .inr (by simpa using h)
theorem palOk_y {n : Nat} (h : prB n = true) (h2 : n % 4 = 3) : palOk n = true := by unfold palOk; rw [h, h2]; rfl

set_option maxHeartbeats 1000000 in
theorem paley_far (p : Int) (w : World) (h : p < 1 ∨ 60 < p) :
    Calls Tryd.prog 15 #[.int .i64 p] w (PalPost p w) := by
  have HF := Lib.hid (palFault_far h)
  by_cases h1 : p < 1
  · have e1 : decide (p < 1) = true := by simpa using h1
    clear h h1
    go_enter Tryd.func15, Tryd.ntmps15
    go_wp2_with fail
    go_ret2
    exact pal_no HF.out (by omega) (Below.refl _ _)
  · have e1 : decide (p < 1) = false := by simpa using h1
    have e2 : decide (p > 60) = true := by simp; omega
    clear h h1
    go_enter Tryd.func15, Tryd.ntmps15
    go_wp2_with fail
    go_ret2
    exact pal_no HF.out (by omega) (Below.refl _ _)

set_option maxRecDepth 100000 in
set_option maxHeartbeats 2000000 in
theorem paley_in (n : Nat) (w : World) (h1 : 1 ≤ n) (h2 : n ≤ 60) :
    Calls Tryd.prog 15 #[.int .i64 (n : Int)] w (PalPost n w) := by
  have HPr := Lib.hid (fun W => primeD_any n h1 h2 W)
  have e1 : decide ((n : Int) < 1) = false := by simp; omega
  have e2 : decide ((n : Int) > 60) = false := by simp; omega
  by_cases hp : prB n = false
  · have HF := Lib.hid (palFault_no h1 h2 (palOk_p hp))
    rw [hp] at HPr
    clear hp
    go_enter Tryd.func15, Tryd.ntmps15
    go_wp2_with fail
    refine (HPr.out _).mono ?_
    rintro e w1 ⟨rfl, rfl⟩
    go_wp2_with fail
    go_ret2
    exact pal_no HF.out (by omega) (Below.refl _ _)
  · have hp : prB n = true := by simpa using hp
    rw [hp] at HPr
    by_cases hm : n % 4 = 3
    · have HOk := Lib.hid (palOk_y hp hm)
      have HF := Lib.hid (palFault_ok h1 h2 HOk.out)
      have e3 : (((n : Int) % 4) != 3) = false := by simp; omega
      clear hp
      go_enter Tryd.func15, Tryd.ntmps15
      go_wp2_with fail
      refine (HPr.out _).mono ?_
      rintro e w1 ⟨rfl, rfl⟩
      go_wp2_with fail
      go_loopw [4, 5] (fun l q wr => ∃ (i m : Nat) (z : Value), (i ≤ n / 2 ∧ m = i + 1) ∧ q = .int .i64 m ∧ l = z ∧ Own wr w.heap.size 3 z (palTo n i) ∧ Below w.heap.size w wr) (fun _ q _ => n / 2 + 2 - (intOf q).toNat)
      case atStart => exact ⟨0, 1, _, by omega, rfl, rfl, own_nil _ _ _, Below.refl _ _⟩
      case round =>
        obtain ⟨i, m, z, ⟨hi, hmi⟩, rfl, hz, hO, hB⟩ := hrel
        subst hz
        have HO := Lib.hid hO; have HB := Lib.hid hB
        have hsz := hB.size
        have hml := palTo_len n i
        clear hO hB
        by_cases hlt : i < n / 2
        · have HM := Lib.hid (palTo_succ n i)
          obtain ⟨hv, hqb⟩ := sqr_val (q := m) (by omega)
          rw [← hmi] at HM
          have HMi := Lib.hid hmi
          have hm1 : 1 ≤ m ∧ m ≤ n / 2 := by omega
          clear hmi
          have hm0 : ¬ n = 0 := by omega
          obtain ⟨P, hP⟩ : ∃ P, P = m * m := ⟨_, rfl⟩
          rw [← hP] at hv hqb HM
          have hw : IntKind.i64.wrap ((P : Nat) % (n : Int)) = ((P % n : Nat) : Int) := by
            rw [← Int.natCast_emod]
            have := Nat.mod_lt P (show n > 0 by omega)
            exact IntWalk.i64_in _ (by omega)
          clear hP
          go_wp2_with (at_builtin; refine app_own rfl _ _ rfl rfl (HO.out.alloc _) _ _ rfl (by rw [World.cell?_alloc_new]; rfl) (by omega) (by rw [World.size_alloc]; omega) ?_; intro v' w1 hown1 hgrow)
          have HO1 := Lib.hid hown1
          have HB1 := Lib.hid ((HB.out.alloc hsz _).grown hgrow (by rw [World.size_alloc]; omega) (fun k hk => (HO.out.block k hk).1))
          clear hown1 hgrow
          go_roundw
          case rel => exact ⟨i + 1, m + 1, _, by have := HMi.out; omega, by go_num, rfl, by rw [← HMi.out, HM.out]; exact HO1.out, HB1.out⟩
          case measure => simp [intOf]; omega
        · obtain rfl : i = n / 2 := by omega
          have HSo := Lib.hid (sort_own HO.out (by omega))
          rw [pal_sort h2 HOk.out] at HSo
          obtain ⟨za, zl, zc, rfl⟩ := HO.out.shape
          go_wp2_with fail
          refine (HSo.out).mono ?_
          rintro e w2 ⟨rfl, hown, hgr⟩
          have HO2 := Lib.hid hown
          have HB2 := Lib.hid (HB.out.grown hgr hsz (fun k hk => (HO.out.block k hk).1))
          clear hown hgr
          go_wp2_with fail
          go_ret2
          exact ⟨.slice za zl zc, by rw [HF.out]; rfl, by unfold palA; rw [if_pos HF.out, Int.toNat_natCast]; exact Own.intsAt HO2.out (by rw [← pal_sort h2 HOk.out, sortI_len, palTo_len]; omega), HB2.out⟩
    · have HF := Lib.hid (palFault_no h1 h2 (palOk_m hm))
      have e3 : (((n : Int) % 4) != 3) = true := by simp; omega
      clear hp hm
      go_enter Tryd.func15, Tryd.ntmps15
      go_wp2_with fail
      refine (HPr.out _).mono ?_
      rintro e w1 ⟨rfl, rfl⟩
      go_wp2_with fail
      go_ret2
      exact pal_no HF.out (by omega) (Below.refl _ _)
theorem paley_any (p : Int) (w : World) : Calls Tryd.prog 15 #[.int .i64 p] w (PalPost p w) := by
  by_cases h : p < 1 ∨ 60 < p
  · exact paley_far p w h
  · obtain ⟨n, rfl⟩ := Int.eq_ofNat_of_zero_le (show 0 ≤ p by omega)
    exact paley_in n w (by omega) (by omega)
end Go.Proofs.YtdbfpdhcaiiiaaaDoor

namespace Go.Proofs.YtdbfpdhcaiiiaaaDoor
open Go.RowKit

theorem sqU_up {p x a : Nat} : ∀ {b : Nat}, a ≤ b → sqU p x a = true → sqU p x b = true
  | 0, h, e => by obtain rfl : a = 0 := by omega
                  exact e
  | b + 1, h, e => by
    by_cases h2 : a = b + 1
    · rw [← h2]; exact e
    · rw [sqU, sqU_up (show a ≤ b by omega) e]; rfl
theorem prI_nat (n : Nat) : prI (n : Int) = prB n := by unfold prI; rw [Int.toNat_natCast]

set_option maxHeartbeats 1000000 in
theorem paleyOf_far (p : Int) (w : World) (h : p < 1 ∨ 60 < p) :
    Calls Tryd.prog 22 #[.int .i64 p] w (PalPost p w) := by
  have HF := Lib.hid (palFault_far h)
  by_cases h1 : p < 1
  · have e1 : decide (p < 1) = true := by simpa using h1
    clear h h1
    go_enter Tryd.func22, Tryd.ntmps22
    go_wp2_with fail
    go_ret2
    exact pal_no HF.out (by omega) (Below.refl _ _)
  · have e1 : decide (p < 1) = false := by simpa using h1
    have e2 : decide (p > 60) = true := by simp; omega
    clear h h1
    go_enter Tryd.func22, Tryd.ntmps22
    go_wp2_with fail
    go_ret2
    exact pal_no HF.out (by omega) (Below.refl _ _)

set_option maxRecDepth 100000 in
set_option maxHeartbeats 2000000 in
theorem paleyOf_in (n : Nat) (w : World) (h1 : 1 ≤ n) (h2 : n ≤ 60) :
    Calls Tryd.prog 22 #[.int .i64 (n : Int)] w (PalPost n w) := by
  have hpr : ∀ W, Calls Tryd.prog 45 #[.int .i64 (n : Int)] W fun e w' => e = .returned (.bool (prB n)) ∧ W = w' := fun W => by
    have := primeX_any n W
    rw [prI_nat] at this; exact this
  have HPr := Lib.hid hpr
  clear hpr
  have e1 : decide ((n : Int) < 1) = false := by simp; omega
  have e2 : decide ((n : Int) > 60) = false := by simp; omega
  by_cases hp : prB n = false
  · have HF := Lib.hid (palFault_no h1 h2 (palOk_p hp))
    rw [hp] at HPr
    clear hp
    go_enter Tryd.func22, Tryd.ntmps22
    go_wp2_with fail
    refine (HPr.out _).mono ?_
    rintro e w1 ⟨rfl, rfl⟩
    go_wp2_with fail
    go_ret2
    exact pal_no HF.out (by omega) (Below.refl _ _)
  · have hp : prB n = true := by simpa using hp
    rw [hp] at HPr
    by_cases hm : n % 4 = 3
    · have HOk := Lib.hid (palOk_y hp hm)
      have HF := Lib.hid (palFault_ok h1 h2 HOk.out)
      have e3 : (((n : Int) % 4) != 3) = false := by simp; omega
      clear hp
      go_enter Tryd.func22, Tryd.ntmps22
      go_wp2_with fail
      refine (HPr.out _).mono ?_
      rintro e w1 ⟨rfl, rfl⟩
      go_wp2_with fail
      go_loopw [5, 6] (fun l q wr => ∃ (x : Nat) (z : Value), (1 ≤ x ∧ x ≤ n) ∧ q = .int .i64 x ∧ l = z ∧ Own wr w.heap.size 3 z (pickL (sqB n) x) ∧ Below w.heap.size w wr) (fun _ q _ => n + 2 - (intOf q).toNat)
      case atStart => exact ⟨1, _, by omega, rfl, rfl, own_nil _ _ _, Below.refl _ _⟩
      case round =>
        obtain ⟨x, z, ⟨hx1, hx⟩, rfl, hz, hO, hB⟩ := hrel
        subst hz
        have HO := Lib.hid hO; have HB := Lib.hid hB
        have hsz := hB.size
        have hml := pickL_len (sqB n) x
        clear hO hB
        by_cases hlt : x < n
        · go_wp2_with fail
          go_loop [7, 8] (fun b q => ∃ (y : Nat) (c : Bool), (1 ≤ y ∧ y ≤ n) ∧ q = .int .i64 y ∧ b = .bool c ∧ c = sqU n x (y - 1)) (fun _ q => n + 2 - (intOf q).toNat)
          case atStart => exact ⟨1, false, by omega, rfl, rfl, rfl⟩
          case round =>
            obtain ⟨y, c, ⟨hy1, hy⟩, rfl, rfl, hc⟩ := hrel
            cases c
            · by_cases hyn : y < n
              · obtain ⟨hv, hqb⟩ := sqr_val (q := y) (by omega)
                have HC : Hid (∀ P, P = y * y → sqU n x y = (P % n == x)) := fun P hP => by
                  have e : sqU n x (y - 1 + 1) = (sqU n x (y - 1) || ((y - 1 + 1) * (y - 1 + 1) % n == x)) := rfl
                  rw [← hc, Bool.false_or, show y - 1 + 1 = y by omega] at e
                  rw [e, hP]
                clear hc
                obtain ⟨P, hP⟩ : ∃ P, P = y * y := ⟨_, rfl⟩
                have HC2 := Lib.hid (HC.out P hP)
                rw [← hP] at hv hqb
                have hm0 : ¬ n = 0 := by omega
                clear hP HC
                by_cases hxe : P % n = x
                · have e4 : (((P : Nat) : Int) % (n : Int) == (x : Int)) = true := by simp; omega
                  have HX : Hid (true = sqU n x y) := by show _ = _; rw [HC2.out]; simp [hxe]
                  clear hxe
                  go_wp2
                  go_round
                  case rel => exact ⟨y + 1, true, by omega, by go_num, rfl, HX.out⟩
                  case measure => simp [intOf]; omega
                · have e4 : (((P : Nat) : Int) % (n : Int) == (x : Int)) = false := by simp; omega
                  have HX : Hid (false = sqU n x y) := by show _ = _; rw [HC2.out]; simp [hxe]
                  clear hxe
                  go_wp2
                  go_round
                  case rel => exact ⟨y + 1, false, by omega, by go_num, rfl, HX.out⟩
                  case measure => simp [intOf]; omega
              · obtain rfl : y = n := by omega
                have HN : Hid (pickL (sqB y) (x + 1) = pickL (sqB y) x) := pickL_no (by unfold sqB; rw [← hc, Bool.and_false])
                clear hc
                go_wp2_with fail
                go_roundw
                case rel => exact ⟨x + 1, _, by omega, by go_num, rfl, by rw [HN.out]; exact HO.out, HB.out⟩
                case measure => simp [intOf]; omega
            · have HN : Hid (pickL (sqB n) (x + 1) = pickL (sqB n) x ++ [(x : Int)]) := pickL_yes (by unfold sqB; rw [decide_eq_true hx1, sqU_up (show y - 1 ≤ n - 1 by omega) hc.symm]; rfl)
              clear hc
              by_cases hyn : y < n
              · go_wp2_with (at_builtin; refine app_own rfl _ _ rfl rfl (HO.out.alloc _) _ _ rfl (by rw [World.cell?_alloc_new]; rfl) (by omega) (by rw [World.size_alloc]; omega) ?_; intro v' w1 hown1 hgrow)
                have HO1 := Lib.hid hown1
                have HB1 := Lib.hid ((HB.out.alloc hsz _).grown hgrow (by rw [World.size_alloc]; omega) (fun k hk => (HO.out.block k hk).1))
                clear hown1 hgrow
                go_roundw
                case rel => exact ⟨x + 1, _, by omega, by go_num, rfl, by rw [HN.out]; exact HO1.out, HB1.out⟩
                case measure => simp [intOf]; omega
              · go_wp2_with (at_builtin; refine app_own rfl _ _ rfl rfl (HO.out.alloc _) _ _ rfl (by rw [World.cell?_alloc_new]; rfl) (by omega) (by rw [World.size_alloc]; omega) ?_; intro v' w1 hown1 hgrow)
                have HO1 := Lib.hid hown1
                have HB1 := Lib.hid ((HB.out.alloc hsz _).grown hgrow (by rw [World.size_alloc]; omega) (fun k hk => (HO.out.block k hk).1))
                clear hown1 hgrow
                go_roundw
                case rel => exact ⟨x + 1, _, by omega, by go_num, rfl, by rw [HN.out]; exact HO1.out, HB1.out⟩
                case measure => simp [intOf]; omega
        · obtain rfl : x = n := by omega
          go_wp2_with fail
          go_ret2
          exact ⟨_, by rw [HF.out]; rfl, by unfold palA; rw [if_pos HF.out, Int.toNat_natCast]; exact Own.intsAt HO.out (by have : (palI x).length ≤ x := pickL_len _ _; omega), HB.out⟩
    · have HF := Lib.hid (palFault_no h1 h2 (palOk_m hm))
      have e3 : (((n : Int) % 4) != 3) = true := by simp; omega
      clear hp hm
      go_enter Tryd.func22, Tryd.ntmps22
      go_wp2_with fail
      refine (HPr.out _).mono ?_
      rintro e w1 ⟨rfl, rfl⟩
      go_wp2_with fail
      go_ret2
      exact pal_no HF.out (by omega) (Below.refl _ _)
theorem paleyOf_any (p : Int) (w : World) : Calls Tryd.prog 22 #[.int .i64 p] w (PalPost p w) := by
  by_cases h : p < 1 ∨ 60 < p
  · exact paleyOf_far p w h
  · obtain ⟨n, rfl⟩ := Int.eq_ofNat_of_zero_le (show 0 ≤ p by omega)
    exact paleyOf_in n w (by omega) (by omega)
end Go.Proofs.YtdbfpdhcaiiiaaaDoor

namespace Go.Proofs.YtdbfpdhcaiiiaaaDoor
open Go.RowKit

def primesLaid : List (String × DataW Unit) := [("parterre/field.primes", Rows.laid_parterre_field_primes)]
theorem gPrimes : Tryd.prog.globalNamed "parterre/field.primes" = some 0 := by kernel_rfl
theorem tPrimes : (Tryd.prog.globals[0]?).map (·.type) = some 119 := by kernel_rfl
theorem c18 : Tryd.prog.cellsOf 119 = 18 := by kernel_rfl
theorem cIntP : Tryd.prog.cellsOf 3 = 1 := by kernel_rfl
theorem primes_met (os : Os) (args : Array Value) : laidMetH Tryd.prog primesLaid ((World.doorLaid Tryd.prog 400 os).forCall (fun _ _ => 0) ⟨#[], args, []⟩).memory :=
  laidMetH_of_parts3 (fuel := 8) (laidMet_of_run' 8 (by kernel_rfl) (by kernel_rfl)) (by kernel_rfl) (by kernel_rfl)
theorem primes_tab {H : Type} : (Rows.laid_parterre_field_primes : DataW H) = Lib.tabData .i64 primesL := rfl
theorem primes_of_laid {W : World} (h : laidMetH Tryd.prog primesLaid W) : PrimesAt W := by
  rw [MakeChecks.laidMetH_plain _ _ _ (by kernel_rfl)] at h
  obtain ⟨ps, ⟨g0, t0, cs0, f0, p0, q0, hg0, ht0, hv0, hd0, _, _⟩, _, _⟩ := h
  obtain rfl := Option.some.inj (gPrimes.symm.trans hg0)
  obtain rfl := Option.some.inj (tPrimes.symm.trans ht0)
  have hc := Lib.cells_of_tab (zs := primesL) Tryd.underlying119 Tryd.underlying3 cIntP c18 hd0
  have key : ∀ k, k < 18 → W.cell? ⟨0, k, none⟩ = some (.int .i64 (ix primesL k)) := by
    intro k hk
    rw [World.var?_cell hg0 hv0 k, ← Array.getElem?_toList, hc]
    rw [List.getElem?_map, List.getElem?_eq_getElem (show k < primesL.length from hk)]
    rw [ix_lt (show k < primesL.length from hk)]
    rfl
  exact ⟨World.block_lt_of_cell? W _ (key 0 (by omega)), key⟩
end Go.Proofs.YtdbfpdhcaiiiaaaDoor

namespace Go.Proofs.YtdbfpdhcaiiiaaaDoor
open Go.RowKit

theorem shape_rows {w : World} {v : Value} {xss : List (List Int)} (h : RowsAt w v xss) : ∃ a c, v = .slice a xss.length c := by
  obtain ⟨a, c, _, h, _⟩ := h
  exact ⟨a, c, h⟩
theorem beq_same (x : Int) : (x == x) = true := by simp
theorem bne_same (x : Int) : (x != x) = false := by simp
theorem eqI_same (xs : List Int) : eqI xs xs = true := by simp [eqI]
theorem designs_none {u : Value} (w : World) (h : RowsAt w u []) :
    Calls Tryd.prog 21 #[.agg #[.int .i64 0, u], .agg #[.int .i64 0, .slice none 0 0]] w fun e w' => e = .returned (.bool true) ∧ Below w.heap.size w w' := by
  have := designs_any 0 0 u (.slice none 0 0) [] [] w h (rows_nil w)
  rw [eqL_refl] at this
  exact this
theorem designs_same {p : Int} {u v : Value} {yss : List (List Int)} (w : World) (h : RowsAt w u yss) (g : RowsAt w v yss) :
    Calls Tryd.prog 21 #[.agg #[.int .i64 p, u], .agg #[.int .i64 p, v]] w fun e w' => e = .returned (.bool true) ∧ Below w.heap.size w w' := by
  have := designs_any p p u v yss yss w h g
  rw [eqL_refl, beq_same] at this
  exact this
theorem ints_same {u v : Value} {xs : List Int} (w : World) (h : IntsAt w u xs) (g : IntsAt w v xs) :
    Calls Tryd.prog 23 #[u, v] w fun e w' => e = .returned (.bool true) ∧ Below w.heap.size w w' := by
  refine (ints_any u v xs xs w h g).mono ?_
  rintro e w' ⟨rfl, nd, rfl⟩
  exact ⟨by rw [eqI_same], below_D _ _⟩
def PalAns (xs : List Int) (f : Int) (w : World) (e : Ending) (w' : World) : Prop := ∃ v, e = .returned (.tuple #[v, .int .i64 f]) ∧ IntsAt w' v xs ∧ Below w.heap.size w w'
theorem pal_both (p : Int) : ∃ (xs : List Int) (f : Int), (∀ w, Calls Tryd.prog 15 #[.int .i64 p] w (PalAns xs f w)) ∧ (∀ w, Calls Tryd.prog 22 #[.int .i64 p] w (PalAns xs f w)) :=
  ⟨_, _, fun w => paley_any p w, fun w => paleyOf_any p w⟩
theorem field_nat {p d : Int} {low : List Int} (h : fieldFault p d low = 0) : ∃ P D : Nat, p = P ∧ d = D ∧ IsField P D low := by
  obtain ⟨h1, h2, h3⟩ := field_of h
  exact ⟨p.toNat, d.toNat, by omega, by omega, h1⟩
theorem sing_both (p d : Int) (v : Value) (low : List Int) : ∃ (n : Int) (xs : List Int) (f : Int),
    (∀ w, IntsAt w v low → PrimesAt w → Calls Tryd.prog 17 #[.agg #[.int .i64 p, .int .i64 d, v]] w (SgPost n xs f w)) ∧
    (∀ w, IntsAt w v low → Calls Tryd.prog 24 #[.agg #[.int .i64 p, .int .i64 d, v]] w (SgPost n xs f w)) := by
  by_cases h0 : fieldFault p d low ≠ 0 ∨ d < 3
  · exact ⟨0, [], _, fun w h hP => singer_bad p d v low w h hP h0, fun w h => singerOf_bad p d v low w h h0⟩
  · have h1 : fieldFault p d low = 0 := Classical.byContradiction fun hc => h0 (.inl hc)
    obtain ⟨P, D, rfl, rfl, hF⟩ := field_nat h1
    have h3 : 3 ≤ D := by
      refine Classical.byContradiction fun hc => h0 (.inr (by omega))
    by_cases hv : 60 < ringV P D
    · exact ⟨0, [], _, fun w h hP => singer_far P D v low w h hP hF h3 hv, fun w h => singerOf_far P D v low w h hF h3 hv⟩
    · refine ⟨_, _, 0, fun w h hP => singer_yes P D v low w h hP hF h3 (by omega), fun w h => ?_⟩
      rw [sinL_ref hF h3 (by omega)]
      exact singerOf_yes P D v low w h hF h3 (by omega)

set_option maxRecDepth 100000 in
set_option maxHeartbeats 4000000 in
theorem dmakes_bad (v : Int) (vset : Value) (xs : List Int) (p : Int) (fp fd : Int) (fv : Value) (low : List Int) (w : World) (hI0 : IntsAt w vset xs) (hI : IntsAt w fv low) (hP : PrimesAt w) (hf : setFault v xs ≠ 0) :
    Calls Tryd.prog 6 #[.int .i64 v, vset, .int .i64 p, .agg #[.int .i64 fp, .int .i64 fd, fv]] w fun e w' => e = .returned (.bool true) ∧ Below w.heap.size w w' := by
  obtain ⟨n1, x1, f1, hs1, hs2⟩ := sing_both fp fd fv low
  obtain ⟨x2, f2, hp1, hp2⟩ := pal_both p
  have HSg := Lib.hid hs1; have HSo := Lib.hid hs2
  have HPa := Lib.hid hp1; have HPo := Lib.hid hp2
  have q1 := beq_same f1; have q2 := bne_same f2; have q3 := beq_same n1
  obtain ⟨sa, sc, rfl, _⟩ := id hI
  obtain ⟨sb, sd, rfl, _⟩ := id hI0
  have HS := Lib.hid (FbRel.begin w fp fd (.slice sa low.length sc))
  have HI := Lib.hid hI; have HP := Lib.hid hP; have HV := Lib.hid hI0
  have HSf := Lib.hid (fun (w1 : World) (h : IntsAt w1 (.slice sb xs.length sd) xs) => setFault_any v _ xs w1 h)
  clear hI hP hI0 hs1 hs2 hp1 hp2
  have HDv := Lib.hid (fun (w1 : World) (h : IntsAt w1 (.slice sb xs.length sd) xs) => develop_bad v _ xs w1 h hf)
  have e1 : (setFault v xs == 0) = false := by simpa using hf
  have e2 := bne_same (setFault v xs)
  clear hf
  generalize setFault v xs = e0 at *
  go_enter Tryd.func6, Tryd.ntmps6
  go_wp2_with fail
  refine (HSf.out _ (HV.out.below HS.out.bel)).mono ?_
  rintro e w1 ⟨rfl, hb1⟩
  have HR1 := Lib.hid (HS.out.step hb1)
  clear hb1 HSf
  go_wp2_with fail
  refine (HDv.out _ (HV.out.below HR1.out.bel)).mono ?_
  rintro e w2 ⟨u, rfl, hr, hb2⟩
  obtain ⟨ua, uc, rfl⟩ := shape_rows hr
  have HR2 := Lib.hid (HR1.out.step hb2)
  have HU := Lib.hid hr
  clear hr hb2 HDv
  go_wp2_with fail
  have hB2 := belowTrans (below_box w2 (.cells #[.int .i64 0, .slice ua 0 uc] 47)) (below_box (w2.alloc (.cells #[.int .i64 0, .slice ua 0 uc] 47)) (.cells #[.int .i64 0, .slice none 0 0] 47))
  have HR3 := Lib.hid (HR2.out.step hB2)
  have HU3 := Lib.hid (HU.out.below hB2)
  clear hB2
  refine (designs_none _ HU3.out).mono ?_
  rintro e w4 ⟨rfl, hb4⟩
  have HR := Lib.hid (HR3.out.step hb4)
  clear hb4 HU3 HU HR3 HR2
  go_wp2_with fail
  refine (HPa.out _).mono ?_
  rintro e w5 ⟨v5, rfl, hi5, hb5⟩
  obtain ⟨a5, c5, rfl, _⟩ := id hi5
  have HR5 := Lib.hid (HR.out.step hb5)
  have HI5 := Lib.hid hi5
  clear hi5 hb5 HR HPa
  go_wp2_with fail
  refine (HPo.out _).mono ?_
  rintro e w6 ⟨v6, rfl, hi6, hb6⟩
  obtain ⟨a6, c6, rfl, _⟩ := id hi6
  have HR6 := Lib.hid (HR5.out.step hb6)
  have HI6 := Lib.hid (HI5.out.below hb6)
  have HJ6 := Lib.hid hi6
  clear hi6 hb6 HR5 HI5 HPo
  go_wp2_with fail
  refine (ints_same _ HI6.out HJ6.out).mono ?_
  rintro e w7 ⟨rfl, hb7⟩
  have HR7 := Lib.hid (HR6.out.step hb7)
  clear hb7 HI6 HJ6 HR6
  obtain ⟨k0, k1, k2⟩ := HR7.out.cells
  go_wp2_with fail
  refine (HSg.out _ (HI.out.below HR7.out.bel) (HP.out.below HR7.out.bel)).mono ?_
  rintro e w8 ⟨v8, rfl, hi8, hb8⟩
  obtain ⟨a8, c8, rfl, _⟩ := id hi8
  have HR8 := Lib.hid (HR7.out.step hb8)
  have HI8 := Lib.hid hi8
  clear hi8 hb8 HR7 HSg k0 k1 k2
  obtain ⟨k0, k1, k2⟩ := HR8.out.cells
  go_wp2_with fail
  refine (HSo.out _ (HI.out.below HR8.out.bel)).mono ?_
  rintro e w9 ⟨v9, rfl, hi9, hb9⟩
  obtain ⟨a9, c9, rfl, _⟩ := id hi9
  have HR9 := Lib.hid (HR8.out.step hb9)
  have HI9 := Lib.hid (HI8.out.below hb9)
  have HJ9 := Lib.hid hi9
  clear hi9 hb9 HR8 HI8 HSo k0 k1 k2
  go_wp2_with fail
  refine (ints_same _ HI9.out HJ9.out).mono ?_
  rintro e w10 ⟨rfl, hb10⟩
  have HR10 := Lib.hid (HR9.out.step hb10)
  clear hb10 HI9 HJ9 HR9
  go_wp2_with fail
  go_ret
  exact ⟨rfl, HR10.out.bel⟩

set_option maxRecDepth 100000 in
set_option maxHeartbeats 4000000 in
theorem dmakes_ok (v : Int) (vset : Value) (xs : List Int) (p : Int) (fp fd : Int) (fv : Value) (low : List Int) (w : World) (hI0 : IntsAt w vset xs) (hI : IntsAt w fv low) (hP : PrimesAt w) (hf : setFault v xs = 0) :
    Calls Tryd.prog 6 #[.int .i64 v, vset, .int .i64 p, .agg #[.int .i64 fp, .int .i64 fd, fv]] w fun e w' => e = .returned (.bool true) ∧ Below w.heap.size w w' := by
  obtain ⟨n1, x1, f1, hs1, hs2⟩ := sing_both fp fd fv low
  obtain ⟨x2, f2, hp1, hp2⟩ := pal_both p
  have HSg := Lib.hid hs1; have HSo := Lib.hid hs2
  have HPa := Lib.hid hp1; have HPo := Lib.hid hp2
  have q1 := beq_same f1; have q2 := bne_same f2; have q3 := beq_same n1
  obtain ⟨sa, sc, rfl, _⟩ := id hI
  obtain ⟨sb, sd, rfl, _⟩ := id hI0
  have HS := Lib.hid (FbRel.begin w fp fd (.slice sa low.length sc))
  have HI := Lib.hid hI; have HP := Lib.hid hP; have HV := Lib.hid hI0
  have HSf := Lib.hid (fun (w1 : World) (h : IntsAt w1 (.slice sb xs.length sd) xs) => setFault_any v _ xs w1 h)
  clear hI hP hI0 hs1 hs2 hp1 hp2
  obtain ⟨m, g0, yss, hd1, hd2⟩ := dev_both v (.slice sb xs.length sd) xs hf
  have HDv := Lib.hid hd1; have HDo := Lib.hid hd2
  rw [hf] at HSf
  have e2 := bne_same g0
  clear hf hd1 hd2
  go_enter Tryd.func6, Tryd.ntmps6
  go_wp2_with fail
  refine (HSf.out _ (HV.out.below HS.out.bel)).mono ?_
  rintro e w1 ⟨rfl, hb1⟩
  have HR1 := Lib.hid (HS.out.step hb1)
  clear hb1 HSf
  go_wp2_with fail
  refine (HDv.out _ (HV.out.below HR1.out.bel)).mono ?_
  rintro e w2 ⟨u, rfl, hr, hb2⟩
  obtain ⟨ua, uc, rfl⟩ := shape_rows hr
  have HR2 := Lib.hid (HR1.out.step hb2)
  have HU := Lib.hid hr
  clear hr hb2 HDv
  go_wp2_with fail
  have hB2 := belowTrans (below_box w2 (.cells #[.int .i64 m, .slice ua yss.length uc] 47)) (below_box (w2.alloc (.cells #[.int .i64 m, .slice ua yss.length uc] 47)) (.cells #[.int .i64 0, .slice none 0 0] 47))
  have HR3 := Lib.hid (HR2.out.step hB2)
  have HU3 := Lib.hid (HU.out.below hB2)
  clear hB2
  have A10 : Hid (Arr ((w2.alloc (.cells #[.int .i64 m, .slice ua yss.length uc] 47)).alloc (.cells #[.int .i64 0, .slice none 0 0] 47)) w2.heap.size 2 (fun j => if j = 0 then Value.int .i64 m else .slice ua yss.length uc)) := (pair_new w2 _ _ _ _ rfl).alloc _
  have A12 : Hid (Arr ((w2.alloc (.cells #[.int .i64 m, .slice ua yss.length uc] 47)).alloc (.cells #[.int .i64 0, .slice none 0 0] 47)) (w2.heap.size + 1) 2 (fun j => if j = 0 then Value.int .i64 0 else .slice none 0 0)) := pair_new _ _ _ _ _ (by simp)
  refine (HDo.out _ (HV.out.below HR3.out.bel)).mono ?_
  rintro e w3 ⟨u2, rfl, hr2, hb3, hk⟩
  obtain ⟨ub, ud, rfl⟩ := shape_rows hr2
  have HB3 : Hid (Below w2.heap.size w2 w3) := (belowTrans (belowTrans (below_box w2 (.cells #[.int .i64 m, .slice ua yss.length uc] 47)) (below_box (w2.alloc (.cells #[.int .i64 m, .slice ua yss.length uc] 47)) (.cells #[.int .i64 0, .slice none 0 0] 47))) hb3)
  have A10 := Lib.hid (A10.out.below hb3)
  have A12 := Lib.hid (A12.out.below hb3)
  have HK := Lib.hid hk
  have hz := hb3.size
  simp only [World.size_alloc] at hz
  have x0 := A10.out.cell (show 0 < 2 by omega); have x1 := A10.out.cell (show 1 < 2 by omega)
  have z0 := A12.out.free (show 0 < 2 by omega); have z1 := A12.out.free (show 1 < 2 by omega)
  have z2 := A12.out.cell (show 0 < 2 by omega); have z3 := A12.out.cell (show 1 < 2 by omega)
  clear hr2 hb3 hk HDo
  go_wp2_with fail
  have HU4 : Hid (RowsAt ((w3.setCell ⟨w2.heap.size + 1, 0, none⟩ (.int .i64 m)).setCell ⟨w2.heap.size + 1, 1, none⟩ (.slice ub yss.length ud)) (.slice ub yss.length ud) yss) := HK.out _ (fun b o hb => by
    simp only [World.size_alloc] at hb
    rw [World.cell?_setCell_other _ _ _ _ (by intro e; have := congrArg Addr.block e; dsimp only at this; omega), World.cell?_setCell_other _ _ _ _ (by intro e; have := congrArg Addr.block e; dsimp only at this; omega)]) (by simp)
  have hB4 := (HB3.out.setCell (p := ⟨w2.heap.size + 1, 0, none⟩) (by show _ ≤ w2.heap.size + 1; omega) (.int .i64 m)).setCell (p := ⟨w2.heap.size + 1, 1, none⟩) (by show _ ≤ w2.heap.size + 1; omega) (.slice ub yss.length ud)
  have HR4 := Lib.hid (HR2.out.step hB4)
  have HU5 := Lib.hid (HU.out.below hB4)
  clear hB4 HK HB3 A10 A12
  refine (designs_same _ HU5.out HU4.out).mono ?_
  rintro e w4 ⟨rfl, hb4⟩
  have HR := Lib.hid (HR4.out.step hb4)
  clear hb4 HU4 HU5 HU HR4 HR3 HR2 hz x0 x1 z0 z1 z2 z3
  go_wp2_with fail
  refine (HPa.out _).mono ?_
  rintro e w5 ⟨v5, rfl, hi5, hb5⟩
  obtain ⟨a5, c5, rfl, _⟩ := id hi5
  have HR5 := Lib.hid (HR.out.step hb5)
  have HI5 := Lib.hid hi5
  clear hi5 hb5 HR HPa
  go_wp2_with fail
  refine (HPo.out _).mono ?_
  rintro e w6 ⟨v6, rfl, hi6, hb6⟩
  obtain ⟨a6, c6, rfl, _⟩ := id hi6
  have HR6 := Lib.hid (HR5.out.step hb6)
  have HI6 := Lib.hid (HI5.out.below hb6)
  have HJ6 := Lib.hid hi6
  clear hi6 hb6 HR5 HI5 HPo
  go_wp2_with fail
  refine (ints_same _ HI6.out HJ6.out).mono ?_
  rintro e w7 ⟨rfl, hb7⟩
  have HR7 := Lib.hid (HR6.out.step hb7)
  clear hb7 HI6 HJ6 HR6
  obtain ⟨k0, k1, k2⟩ := HR7.out.cells
  go_wp2_with fail
  refine (HSg.out _ (HI.out.below HR7.out.bel) (HP.out.below HR7.out.bel)).mono ?_
  rintro e w8 ⟨v8, rfl, hi8, hb8⟩
  obtain ⟨a8, c8, rfl, _⟩ := id hi8
  have HR8 := Lib.hid (HR7.out.step hb8)
  have HI8 := Lib.hid hi8
  clear hi8 hb8 HR7 HSg k0 k1 k2
  obtain ⟨k0, k1, k2⟩ := HR8.out.cells
  go_wp2_with fail
  refine (HSo.out _ (HI.out.below HR8.out.bel)).mono ?_
  rintro e w9 ⟨v9, rfl, hi9, hb9⟩
  obtain ⟨a9, c9, rfl, _⟩ := id hi9
  have HR9 := Lib.hid (HR8.out.step hb9)
  have HI9 := Lib.hid (HI8.out.below hb9)
  have HJ9 := Lib.hid hi9
  clear hi9 hb9 HR8 HI8 HSo k0 k1 k2
  go_wp2_with fail
  refine (ints_same _ HI9.out HJ9.out).mono ?_
  rintro e w10 ⟨rfl, hb10⟩
  have HR10 := Lib.hid (HR9.out.step hb10)
  clear hb10 HI9 HJ9 HR9
  go_wp2_with fail
  go_ret
  exact ⟨rfl, HR10.out.bel⟩

theorem differMakes_walk (v : Int) (vset : Value) (xs : List Int) (p : Int) (fp fd : Int) (fv : Value) (low : List Int) (w : World) (_hv : -9223372036854775808 ≤ v ∧ v ≤ 9223372036854775807) (hI0 : IntsAt w vset xs) (_hx : Fits xs) (_hp : -9223372036854775808 ≤ p ∧ p ≤ 9223372036854775807) (_hfp : -9223372036854775808 ≤ fp ∧ fp ≤ 9223372036854775807) (_hfd : -9223372036854775808 ≤ fd ∧ fd ≤ 9223372036854775807) (hI : IntsAt w fv low) (_hl : Fits low) (hP : PrimesAt w) :
    Calls Tryd.prog 6 #[.int .i64 v, vset, .int .i64 p, .agg #[.int .i64 fp, .int .i64 fd, fv]] w fun e w' => e = .returned (.bool true) ∧ Below w.heap.size w w' := by
  by_cases hf : setFault v xs = 0
  · exact dmakes_ok v vset xs p fp fd fv low w hI0 hI hP hf
  · exact dmakes_bad v vset xs p fp fd fv low w hI0 hI hP hf
end Go.Proofs.YtdbfpdhcaiiiaaaDoor
