/-
  Contracts: intercalates, the program's count. No condition.
-/
import Derived.Test.YtkmfhnjadpdkeaaDoorTrans2
namespace Go.Proofs.YtkmfhnjadpdkeaaDoor
open Go.RowKit

def interB (n : Nat) (xs : List Int) (i k j l : Nat) : Bool := qat n xs i j == qat n xs k l && qat n xs i l == qat n xs k j
def int4 (n : Nat) (xs : List Int) (i k j l : Nat) : Nat := if interB n xs i k j l then 1 else 0
def int3 (n : Nat) (xs : List Int) (i k j : Nat) : Nat := sumTo (int4 n xs i k j) j
def int2 (n : Nat) (xs : List Int) (i k : Nat) : Nat := sumTo (int3 n xs i k) n
def int1 (n : Nat) (xs : List Int) (i : Nat) : Nat := sumTo (int2 n xs i) i
def int0 (n : Nat) (xs : List Int) : Nat := sumTo (int1 n xs) n
/-- The count behind so many rounds of each loop. -/
def intC (n : Nat) (xs : List Int) (i k j l : Nat) : Nat := sumTo (int1 n xs) i + sumTo (int2 n xs i) k + sumTo (int3 n xs i k) j + sumTo (int4 n xs i k j) l
theorem int4_le (n : Nat) (xs : List Int) (i k j l : Nat) : int4 n xs i k j l ≤ 1 := by unfold int4; split <;> omega
theorem intC_le {n : Nat} (hn : n ≤ 8) (xs : List Int) {i k j l : Nat} (hi : i ≤ 8) (hk : k ≤ 8) (hj : j ≤ 8) (hl : l ≤ 8) : intC n xs i k j l ≤ 5000 := by
  have h4 : ∀ i k j l, l ≤ 8 → sumTo (int4 n xs i k j) l ≤ 8 := fun i k j l hl => by
    have := sumTo_le (f := int4 n xs i k j) (M := 1) l (fun t _ => int4_le n xs i k j t); omega
  have h3 : ∀ i k j, j ≤ 8 → sumTo (int3 n xs i k) j ≤ 64 := fun i k j hj => by
    have := sumTo_le (f := int3 n xs i k) (M := 8) j (fun t ht => h4 i k t t (by omega)); omega
  have h2 : ∀ i k, k ≤ 8 → sumTo (int2 n xs i) k ≤ 512 := fun i k hk => by
    have := sumTo_le (f := int2 n xs i) (M := 64) k (fun t _ => h3 i t n hn); omega
  have h1 : ∀ i, i ≤ 8 → sumTo (int1 n xs) i ≤ 4096 := fun i hi => by
    have := sumTo_le (f := int1 n xs) (M := 512) i (fun t ht => h2 t t (by omega)); omega
  have a1 := h1 i hi; have a2 := h2 i k hk; have a3 := h3 i k j hj; have a4 := h4 i k j l hl
  unfold intC; omega
theorem intC_l (n : Nat) (xs : List Int) (i k j l : Nat) : intC n xs i k j (l + 1) = intC n xs i k j l + int4 n xs i k j l := by unfold intC; rw [sumTo]; omega
theorem intC_j (n : Nat) (xs : List Int) (i k j : Nat) : intC n xs i k (j + 1) 0 = intC n xs i k j j := by unfold intC; rw [sumTo]; show _ + (_ + sumTo (int4 n xs i k j) j) + 0 = _; omega
theorem intC_k (n : Nat) (xs : List Int) (i k : Nat) : intC n xs i (k + 1) 0 0 = intC n xs i k n 0 := by unfold intC; rw [sumTo]; show _ + (_ + sumTo (int3 n xs i k) n) + 0 + 0 = _ + 0; omega
theorem intC_i (n : Nat) (xs : List Int) (i : Nat) : intC n xs (i + 1) 0 0 0 = intC n xs i i 0 0 := by unfold intC; rw [sumTo]; show (_ + sumTo (int2 n xs i) i) + 0 + 0 + 0 = _ + 0 + 0; omega

set_option maxHeartbeats 1000000 in
theorem intAt_any (n i j bs bn : Nat) (v : Value) (xs : List Int) (w : World) (h : IntsAt w v xs) (hn8 : n ≤ 8) (hl : xs.length = n * n) (hi : i < n) (hj : j < n)
    (hbs : w.cell? ⟨bs, 1, none⟩ = some v) (hbn : w.cell? ⟨bn, 0, none⟩ = some (.int .i64 n)) :
    Calls Tryd.prog 31 #[.int .i64 i, .int .i64 j, .pointer (some ⟨bs, 0, none⟩), .pointer (some ⟨bn, 0, none⟩)] w fun e w' => e = .returned (.int .i64 (qat n xs i j)) ∧ w = w' := by
  obtain ⟨a, c, rfl, h1, h2, _, h3⟩ := h
  have hpl : i * n + j < xs.length := by rw [hl]; exact place_lt hi hj
  obtain ⟨b, o, rfl, hb, hc⟩ := h3 _ hpl
  have hcell : w.cell? ⟨b, o + (i * n + j), none⟩ = some (.int .i64 (qat n xs i j)) := hc _ hpl
  have hw := int_val (wrap_mul8 (i := i) (n := n) (by omega) (by omega))
  have hin : i * n ≤ 64 := Nat.mul_le_mul (show i ≤ 8 by omega) (show n ≤ 8 by omega)
  clear hc h3 hl
  generalize i * n = q at *
  go_enter Tryd.func31, Tryd.ntmps31
  go_wp2_with fail
  go_ret
  exact ⟨rfl, rfl⟩

def interCount (side : Int) (xs : List Int) : Nat := if latinFault side xs = 0 then int0 side.toNat xs else 0
theorem int0_eq (n : Nat) (xs : List Int) : int0 n xs = intC n xs n 0 0 0 := rfl
theorem int4_way (n : Nat) (xs : List Int) (i k j l : Nat) :
    ((qat n xs i j == qat n xs k l) = false ∧ int4 n xs i k j l = 0) ∨
    ((qat n xs i j == qat n xs k l) = true ∧ (qat n xs i l == qat n xs k j) = true ∧ int4 n xs i k j l = 1) ∨
    ((qat n xs i j == qat n xs k l) = true ∧ (qat n xs i l == qat n xs k j) = false ∧ int4 n xs i k j l = 0) := by
  unfold int4 interB
  cases (qat n xs i j == qat n xs k l) <;> cases (qat n xs i l == qat n xs k j) <;> simp

set_option maxHeartbeats 2000000 in
theorem inter_any (side : Int) (v : Value) (xs : List Int) (w : World) (h : IntsAt w v xs) :
    Calls Tryd.prog 14 #[.agg #[.int .i64 side, v]] w fun e w' => e = .returned (.tuple #[.int .i64 (interCount side xs), .int .i64 (latinFault side xs)]) ∧ Below w.heap.size w w' := by
  have HB := Lib.hid (below_box w (.cells #[.int .i64 side, v] 24))
  have HI := Lib.hid (h.below HB.out)
  cases e1 : (latinFault side xs != 0)
  · have l0 : latinFault side xs = 0 := by simpa using e1
    have HL := Lib.hid (latin_of l0)
    obtain ⟨n, rfl⟩ := Int.eq_ofNat_of_zero_le (show 0 ≤ side by have := HL.out.lo; omega)
    have hn8 : n ≤ 8 := by have := HL.out.hi; omega
    have HLen := Lib.hid HL.out.lenN
    have Hc : Hid (interCount n xs = intC n xs n 0 0 0) := by show _ = _; unfold interCount; rw [if_pos l0, Int.toNat_natCast]; rfl
    have L0 := Lib.hid l0
    clear l0
    go_enter Tryd.func14, Tryd.ntmps14
    go_wp2_with fail
    refine (check_any _ _ xs _ HI.out).mono ?_
    rintro e w1 ⟨rfl, hb1⟩
    obtain ⟨hz, k0, k1⟩ := box1 hb1
    have hbw := belowTrans HB.out hb1
    have HW := Lib.hid (belowTrans hbw (below_box w1 (.cells #[.int .i64 n] 3)))
    have hA : Hid (∀ i j, i < n → j < n → Calls Tryd.prog 31 #[.int .i64 i, .int .i64 j, .pointer (some ⟨w.heap.size, 0, none⟩), .pointer (some ⟨w1.heap.size, 0, none⟩)] (w1.alloc (.cells #[.int .i64 n] 3))
        fun e w' => e = .returned (.int .i64 (qat n xs i j)) ∧ (w1.alloc (.cells #[.int .i64 n] 3)) = w') := fun i j hi hj =>
      intAt_any n i j w.heap.size w1.heap.size v xs _ ((h.below hbw).below (below_box _ _)) hn8 HLen.out hi hj
        (by rw [World.cell?_alloc_old _ _ _ (by simp; omega)]; exact k1) (by rw [World.cell?_alloc_new]; rfl)
    have hnb : (w1.alloc (.cells #[.int .i64 n] 3)).cell? ⟨w1.heap.size, 0, none⟩ = some (.int .i64 n) := by rw [World.cell?_alloc_new]; rfl
    clear hb1 hbw h
    go_wp2_with fail
    generalize w1.alloc (.cells #[.int .i64 n] 3) = W at *
    clear k0 k1 hz
    go_loop [6, 21] (fun c s => ∃ i : Nat, i ≤ n ∧ s = .int .i64 i ∧ c = .int .i64 (intC n xs i 0 0 0)) (fun _ s => n - (intOf s).toNat)
    case atStart => exact ⟨0, by omega, rfl, rfl⟩
    case round =>
      obtain ⟨i, hi, rfl, rfl⟩ := hrel
      by_cases hil : i < n
      · have Hi := Lib.hid (intC_i n xs i)
        go_wp2_with fail
        go_loop [6, 25] (fun c s => ∃ k : Nat, k ≤ i ∧ s = .int .i64 k ∧ c = .int .i64 (intC n xs i k 0 0)) (fun _ s => i - (intOf s).toNat)
        case atStart => exact ⟨0, by omega, rfl, rfl⟩
        case round =>
          obtain ⟨k, hk, rfl, rfl⟩ := hrel
          by_cases hkl : k < i
          · have Hk := Lib.hid (intC_k n xs i k)
            have hkn : k < n := by omega
            go_wp2_with fail
            go_loop [6, 29] (fun c s => ∃ j : Nat, j ≤ n ∧ s = .int .i64 j ∧ c = .int .i64 (intC n xs i k j 0)) (fun _ s => n - (intOf s).toNat)
            case atStart => exact ⟨0, by omega, rfl, rfl⟩
            case round =>
              obtain ⟨j, hj, rfl, rfl⟩ := hrel
              by_cases hjl : j < n
              · have Hj := Lib.hid (intC_j n xs i k j)
                go_wp2_with fail
                go_loop [6, 33] (fun c s => ∃ l : Nat, l ≤ j ∧ s = .int .i64 l ∧ c = .int .i64 (intC n xs i k j l)) (fun _ s => j - (intOf s).toNat)
                case atStart => exact ⟨0, by omega, rfl, rfl⟩
                case round =>
                  obtain ⟨l, hl, rfl, rfl⟩ := hrel
                  by_cases hll : l < j
                  · have hln : l < n := by omega
                    have Hl := Lib.hid (intC_l n xs i k j l)
                    have hcb := intC_le hn8 xs (i := i) (k := k) (j := j) (l := l) (by omega) (by omega) (by omega) (by omega)
                    have A1 := Lib.hid (hA.out i j hil hjl)
                    have A2 := Lib.hid (hA.out k l hkn hln)
                    have A3 := Lib.hid (hA.out i l hil hln)
                    have A4 := Lib.hid (hA.out k j hkn hjl)
                    rcases int4_way n xs i k j l with ⟨e1, ec⟩ | ⟨e1, e2, ec⟩ | ⟨e1, e2, ec⟩
                    all_goals
                      have Hec := Lib.hid ec; clear ec
                      go_wp2_with (first | (with_reducible refine (A1.out).mono ?_; rintro e w' ⟨rfl, rfl⟩) | (with_reducible refine (A2.out).mono ?_; rintro e w' ⟨rfl, rfl⟩) | (with_reducible refine (A3.out).mono ?_; rintro e w' ⟨rfl, rfl⟩) | (with_reducible refine (A4.out).mono ?_; rintro e w' ⟨rfl, rfl⟩))
                      go_round
                      case rel => exact ⟨l + 1, by omega, by go_num, by rw [Hl.out, Hec.out]; go_num⟩
                      case measure => simp [intOf]; omega
                  · obtain rfl : l = j := by omega
                    go_wp2_with fail
                    go_round
                    case rel => exact ⟨l + 1, by omega, by go_num, by rw [Hj.out]⟩
                    case measure => simp [intOf]; omega
              · obtain rfl : j = n := by omega
                go_wp2_with fail
                go_round
                case rel => exact ⟨k + 1, by omega, by go_num, by rw [Hk.out]⟩
                case measure => simp [intOf]; omega
          · obtain rfl : k = i := by omega
            go_wp2_with fail
            go_round
            case rel => exact ⟨k + 1, by omega, by go_num, by rw [Hi.out]⟩
            case measure => simp [intOf]; omega
      · obtain rfl : i = n := by omega
        go_wp2_with fail
        go_ret2
        exact ⟨ret_tup2 (by rw [Hc.out]; rfl) (by rw [L0.out]; rfl), HW.out⟩
  · have Hc : Hid (interCount side xs = 0) := by show _ = _; unfold interCount; rw [if_neg (by simpa using e1)]
    go_enter Tryd.func14, Tryd.ntmps14
    go_wp2_with fail
    refine (check_any _ _ xs _ HI.out).mono ?_
    rintro e w1 ⟨rfl, hb1⟩
    go_wp2_with fail
    go_ret2
    exact ⟨ret_tup2 (by rw [Hc.out]; rfl) rfl, belowTrans HB.out hb1⟩

end Go.Proofs.YtkmfhnjadpdkeaaDoor
