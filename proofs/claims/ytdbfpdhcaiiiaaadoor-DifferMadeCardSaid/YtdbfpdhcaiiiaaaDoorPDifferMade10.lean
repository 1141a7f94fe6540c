/-
  Contract: the reference's IsPrime, of any number. No condition.
  Contract: the library's slices.Sort, on ints of the call's own. No condition.
  Paley's sets: the squares of a prime, made and asked for, are one: reckoned, for the primes that a ring holds. No program in sight. No condition.
  A set is of a level: reckoned by the bits of a number. No program in sight. No condition.
-/
import Derived.Test.YtdbfpdhcaiiiaaaDoorPDifferMade4
import Derived.Sort.OwnSortedInts
import Derived.Test.YtdbfpdhcaiiiaaaDoorPDifferMade3
import Derived.Test.YtdbfpdhcaiiiaaaDoorSortLay
import Derived.Test.YtdbfpdhcaiiiaaaDoorPDifferMade9
namespace Go.Proofs.YtdbfpdhcaiiiaaaDoor
open Go.RowKit

/-- Is a number one that IsPrime passes? -/
def prB (n : Nat) : Bool := decide (2 ≤ n ∧ n ≤ 100000) && decide (∀ d, d < n → 2 ≤ d → d * d ≤ n → n % d ≠ 0)
def prI (n : Int) : Bool := prB n.toNat
theorem prB_far {n : Nat} (h : ¬ (2 ≤ n ∧ n ≤ 100000)) : prB n = false := by unfold prB; rw [decide_eq_false h]; rfl
theorem prB_hit {n q : Nat} (h2 : 2 ≤ q) (hq : q * q ≤ n) (h : n % q = 0) : prB n = false := by
  unfold prB
  have h4 : q * 2 ≤ q * q := Nat.mul_le_mul (Nat.le_refl q) h2
  rw [decide_eq_false (p := ∀ d, d < n → 2 ≤ d → d * d ≤ n → n % d ≠ 0) (fun hc => hc q (by omega) h2 hq h), Bool.and_false]
theorem prB_yes {n q : Nat} (h1 : 2 ≤ n ∧ n ≤ 100000) (hq : n < q * q) (h : ∀ d, 2 ≤ d → d < q → n % d ≠ 0) : prB n = true := by
  unfold prB
  rw [decide_eq_true h1, decide_eq_true (p := ∀ d, d < n → 2 ≤ d → d * d ≤ n → n % d ≠ 0)]
  · rfl
  · intro d _ hd hdd
    refine h d hd ?_
    refine Classical.byContradiction fun hc => ?_
    have := Nat.mul_le_mul (show q ≤ d by omega) (show q ≤ d by omega)
    omega
theorem sq_up {q n : Nat} (h : q * q ≤ n) (hn : n ≤ 100000) : q ≤ 316 := by
  refine Classical.byContradiction fun hc => ?_
  have := Nat.mul_le_mul (show 317 ≤ q by omega) (show 317 ≤ q by omega)
  omega
theorem sqr_val {q : Nat} (h : q ≤ 317) : Value.int .i64 (wrap64 ((q : Int) * (q : Int))) = Value.int .i64 ((q * q : Nat) : Int) ∧ q * q ≤ 100489 := by
  have h : q * q ≤ 317 * 317 := Nat.mul_le_mul h h
  refine ⟨?_, by omega⟩
  rw [← Int.natCast_mul, IntWalk.wrap64_in _ (by omega)]

set_option maxHeartbeats 1000000 in
theorem primeX_any (n : Int) (w : World) :
    Calls Tryd.prog 45 #[.int .i64 n] w fun e w' => e = .returned (.bool (prI n)) ∧ w = w' := by
  by_cases h2 : n < 2
  · have e1 : decide (n < 2) = true := by simpa using h2
    have HP : Hid (prI n = false) := prB_far (by omega)
    clear h2
    go_enter Tryd.func45, Tryd.ntmps45
    go_wp2
    go_ret
    exact ⟨ret_bool HP.out.symm, rfl⟩
  · by_cases h3 : 100000 < n
    · have e1 : decide (n < 2) = false := by simpa using h2
      have e2 : decide (100000 < n) = true := by simpa using h3
      have HP : Hid (prI n = false) := prB_far (by omega)
      clear h2 h3
      go_enter Tryd.func45, Tryd.ntmps45
      go_wp2
      go_ret
      exact ⟨ret_bool HP.out.symm, rfl⟩
    · obtain ⟨n, rfl⟩ := Int.eq_ofNat_of_zero_le (show 0 ≤ n by omega)
      have HN : Hid (2 ≤ n ∧ n ≤ 100000) := ⟨by omega, by omega⟩
      have e1 : decide ((n : Int) < 2) = false := by simpa using h2
      have e2 : decide (100000 < (n : Int)) = false := by simpa using h3
      have hn2 : (n : Int) ≤ 100000 := by omega
      show Calls Tryd.prog 45 #[.int .i64 (n : Int)] w fun e w' => e = .returned (.bool (prB n)) ∧ w = w'
      clear h3
      go_enter Tryd.func45, Tryd.ntmps45
      go_wp2
      clear e1 e2
      go_loop [3] (fun s => ∃ q : Nat, 2 ≤ q ∧ q ≤ 317 ∧ s = .int .i64 q ∧ ∀ d, 2 ≤ d → d < q → n % d ≠ 0) (fun s => 320 - (intOf s).toNat)
      case atStart => exact ⟨2, by omega, by omega, rfl, fun d h1 h2 => by omega⟩
      case round =>
        obtain ⟨q, hq1, hq2, rfl, hno⟩ := hrel
        have HNo := Lib.hid hno
        clear hno
        obtain ⟨hv, hqb⟩ := sqr_val (q := q) (by omega)
        have hq0 : ¬ q = 0 := by omega
        have H1 : Hid (n < q * q → prB n = true) := fun h => prB_yes HN.out h HNo.out
        have H2 : Hid (q * q ≤ n → n % q = 0 → prB n = false) := fun h h' => prB_hit hq1 h h'
        have H3 : Hid (q * q ≤ n → q ≤ 316) := fun h => sq_up h HN.out.2
        obtain ⟨P, hP⟩ : ∃ P, P = q * q := ⟨_, rfl⟩
        rw [← hP] at hv hqb H1 H2 H3
        clear hP
        by_cases hle : P ≤ n
        · have h316 := H3.out hle
          by_cases hd : n % q = 0
          · have HF := Lib.hid (H2.out hle hd)
            have e1 : (((n : Nat) : Int) % ((q : Nat) : Int) == 0) = true := by simp; omega
            clear hd
            go_wp2
            go_ret
            exact ⟨ret_bool HF.out.symm, rfl⟩
          · have e1 : (((n : Nat) : Int) % ((q : Nat) : Int) == 0) = false := by simp; omega
            have HD := Lib.hid hd
            clear hd
            go_wp2
            go_round
            case rel => exact ⟨q + 1, by omega, by omega, by go_num, fun d h1 h2 => by
              by_cases e : d = q
              · subst e; exact HD.out
              · exact HNo.out d h1 (by omega)⟩
            case measure => simp [intOf]; omega
        · have HR := Lib.hid (H1.out (by omega))
          go_wp2
          go_ret
          exact ⟨ret_bool HR.out.symm, rfl⟩
end Go.Proofs.YtdbfpdhcaiiiaaaDoor

namespace Go.Proofs.YtdbfpdhcaiiiaaaDoor
open Go.RowKit Go.Sort

/-- Sorted. -/
def sortI (xs : List Int) : List Int := xs.mergeSort fun x y => decide (x ≤ y)
theorem sortI_perm (xs : List Int) : (sortI xs).Perm xs := List.mergeSort_perm _ _
theorem sortI_len (xs : List Int) : (sortI xs).length = xs.length := (sortI_perm xs).length_eq
theorem sortI_mem {xs : List Int} {x : Int} : x ∈ sortI xs ↔ x ∈ xs := (sortI_perm xs).mem_iff
theorem sortI_le (xs : List Int) : (sortI xs).Pairwise (· ≤ ·) := by
  have h := List.pairwise_mergeSort (le := fun x y : Int => decide (x ≤ y)) (fun a b c h1 h2 => by simp at h1 h2 ⊢; omega) (fun a b => by simp; omega) xs
  exact h.imp (fun h => by simpa using h)
theorem sortI_lt {xs : List Int} (h : xs.Nodup) : (sortI xs).Pairwise (· < ·) := by
  have h1 := sortI_le xs
  have h2 : (sortI xs).Nodup := (sortI_perm xs).nodup_iff.2 h
  exact (List.Pairwise.and h1 h2).imp (fun h => by omega)
theorem sort_own {base : Nat} {v : Value} {xs : List Int} {w : World} (h : Own w base 3 v xs) (hl : xs.length < 1000000000) :
    Calls Tryd.prog 38 #[v] w fun e w' => e = .returned (.tuple #[]) ∧ Own w' base 3 v (sortI xs) ∧ w.grownBy w' v.ownBlock := by
  have h0 := h
  rcases h.2 with ⟨rfl, hn⟩ | ⟨g, cap, cur, rfl, hg, hh, hc, hm, hs, ht⟩
  · obtain rfl : xs = [] := List.eq_nil_of_length_eq_zero hn
    refine (Tryd.slices_Sort_int_none none 0 w).mono ?_
    rintro e w' ⟨rfl, rfl⟩
    refine ⟨rfl, ?_, ⟨rfl, rfl, rfl, Nat.le_refl _, fun _ _ _ => rfl⟩⟩
    have : sortI [] = [] := List.eq_nil_of_length_eq_zero (sortI_len [])
    rw [this]; exact h0
  · rw [Nat.mul_one] at ht
    have hH := holds_of_blockI hh ht
    refine (Tryd.slices_Sort_int g 0 cap xs w hH (Array.getElem?_eq_some_iff.1 hh).1 (by omega)).mono ?_
    rintro e w' ⟨rfl, n, os, rfl⟩
    refine ⟨rfl, ?_, grownBy_sortedI _⟩
    unfold Own
    rw [sortI_len]
    exact ownsRow_sortedI (sortI_len xs) hg hh hc hm hs
end Go.Proofs.YtdbfpdhcaiiiaaaDoor

namespace Go.Proofs.YtdbfpdhcaiiiaaaDoor
open Go.RowKit

/-- The squares of 1 .. k. -/
def palN (p k : Nat) : List Nat := (List.range k).map fun i => (i + 1) * (i + 1) % p
def palTo (p k : Nat) : List Int := (palN p k).map fun x => ((x : Nat) : Int)
theorem palTo_succ (p k : Nat) : palTo p (k + 1) = palTo p k ++ [(((k + 1) * (k + 1) % p : Nat) : Int)] := by
  unfold palTo palN; rw [List.range_succ, List.map_append, List.map_append]; rfl
theorem palTo_len (p k : Nat) : (palTo p k).length = k := by simp [palTo, palN]
/-- Is a number the square of one of 1 .. m? -/
def sqU (p x : Nat) : Nat → Bool
  | 0 => false
  | m + 1 => sqU p x m || ((m + 1) * (m + 1) % p == x)
def sqB (p x : Nat) : Bool := decide (1 ≤ x) && sqU p x (p - 1)
/-- The squares, rising. -/
def palI (p : Nat) : List Int := pickL (sqB p) p
/-- Has Paley a set? -/
def palOk (p : Nat) : Bool := prB p && p % 4 == 3
def palCk (p : Nat) : Bool := ((List.range p).all fun x => (palN p (p / 2)).contains x == sqB p x) && ((palN p (p / 2)).all (· < p) && decide (palN p (p / 2)).Nodup)
theorem palCk_all : ((List.range 61).all fun p => !palOk p || palCk p) = true := by decide +kernel
theorem pal_sort {p : Nat} (h : p ≤ 60) (hP : palOk p = true) : sortI (palTo p (p / 2)) = palI p := by
  have h1 := List.all_eq_true.1 palCk_all p (List.mem_range.2 (by omega))
  rw [hP, Bool.not_true, Bool.false_or] at h1
  unfold palCk at h1
  simp only [Bool.and_eq_true, decide_eq_true_eq, List.all_eq_true, List.mem_range, beq_iff_eq] at h1
  obtain ⟨ha, hb, hc⟩ := h1
  refine rise_pick (sortI_lt ?_) (fun x hx => ?_) fun j hj => ?_
  · unfold palTo
    rw [List.Nodup, List.pairwise_map]
    exact hc.imp fun h => by omega
  · rw [sortI_mem] at hx
    unfold palTo at hx
    obtain ⟨y, hy, rfl⟩ := List.mem_map.1 hx
    have := hb y hy
    omega
  · rw [sortI_mem, ← ha j hj]
    unfold palTo
    rw [List.contains_iff_mem, List.mem_map]
    constructor
    · exact fun h => ⟨j, h, rfl⟩
    · rintro ⟨y, hy, e⟩
      obtain rfl : y = j := by omega
      exact hy
end Go.Proofs.YtdbfpdhcaiiiaaaDoor

namespace Go.Proofs.YtdbfpdhcaiiiaaaDoor
open Go.RowKit

/-- Bits as a number. -/
def maskL : List Bool → Nat
  | [] => 0
  | b :: r => 2 * maskL r + b.toNat
theorem maskL_bit : ∀ (l : List Bool) (i : Nat), (maskL l).testBit i = l.getD i false
  | [], i => by simp [maskL]
  | b :: r, 0 => by
    rw [maskL, Nat.testBit_zero]
    cases b <;> simp <;> omega
  | b :: r, i + 1 => by
    rw [maskL, Nat.testBit_succ, List.getD_cons_succ, ← maskL_bit r i]
    congr 1
    cases b <;> simp <;> omega
/-- How often d is a difference of the bits. -/
def cntM (M n d : Nat) : Nat → Nat
  | 0 => 0
  | x + 1 => cntM M n d x + if M.testBit x && M.testBit ((x + d) % n) then 1 else 0
def lvM (M n l : Nat) : Bool := (List.range n).all fun d => d == 0 || cntM M n d n == l
theorem cntM_sum (M n d : Nat) : ∀ m, ((cntM M n d m : Nat) : Int) = sumL (List.range m) fun x => ind (M.testBit x) * ind (M.testBit ((x + d) % n))
  | 0 => rfl
  | m + 1 => by
    rw [range_succ_sum, ← cntM_sum M n d m, cntM]
    cases M.testBit m <;> cases M.testBit ((m + d) % n) <;> simp [ind]
theorem dif_mask {M n d : Nat} {xs : List Int} (hS : IsSet n xs) (hd : d < n) (h : ∀ x, x < n → mem xs (x : Int) = M.testBit x) : dcnt n xs d = cntM M n d n := by
  have h1 := dcnt_dif hS hd
  have h2 := cntM_sum M n d n
  have : dif n xs d = sumL (List.range n) fun x => ind (M.testBit x) * ind (M.testBit ((x + d) % n)) := by
    unfold dif
    refine sumL_congr fun x hx => ?_
    have hx := List.mem_range.1 hx
    unfold ch
    rw [h x hx, h _ (Nat.mod_lt _ (by omega))]
  omega
theorem lv_of {M n l : Nat} {xs : List Int} (hS : IsSet n xs) (h : ∀ x, x < n → mem xs (x : Int) = M.testBit x) (hl : lvM M n l = true) (h2 : 2 ≤ n) : difE n xs = 0 ∧ difL n xs = l := by
  have hc : ∀ d, 1 ≤ d → d < n → dcnt n xs d = l := fun d h1 hd => by
    have := List.all_eq_true.1 hl d (List.mem_range.2 hd)
    rw [dif_mask hS hd h]
    simp at this
    omega
  have hA : dAll n xs n = true := dAll_iff.2 fun d h1 hd => by rw [hc d h1 hd, hc 1 (by omega) (by omega)]
  have hE : difE n xs = 0 := by unfold difE; rw [if_neg (by rw [hS.fault]; simp), Int.toNat_natCast, if_pos hA]
  refine ⟨hE, ?_⟩
  unfold difL
  rw [if_pos hE, if_neg (by omega), Int.toNat_natCast, hc 1 (by omega) (by omega)]
end Go.Proofs.YtdbfpdhcaiiiaaaDoor
