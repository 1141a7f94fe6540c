/-
  Contract: the walk of the reference's count of intercalates. No condition.
-/
import Derived.Test.YtkmfhnjadpdkeaaInter2
namespace Go.Proofs.Ytkmfhnjadpdkeaa
open Go.RowKit

set_option maxRecDepth 100000 in
set_option maxHeartbeats 2000000 in
theorem interOf_any (n : Nat) (v : Value) (xs : List Int) (w : World) (h : IntsAt w v xs) (hL : IsLatin n xs) :
    Calls Try.prog 23 #[.agg #[.int .i64 n, v]] w fun e w' => e = .returned (.int .i64 (int0 n xs)) ∧ Below w.heap.size w w' := by
  have HL := Lib.hid hL
  have hn8 : n ≤ 8 := by have := hL.hi; omega
  have HLen := Lib.hid hL.lenN
  have Hs := Lib.hid (inter_same n xs)
  obtain ⟨a, c, rfl, h1, h2, _, h3⟩ := h
  have H3 : Hid (∀ i j, i < n → j < n → ∃ b o, a = some ⟨b, o, none⟩ ∧ b < w.heap.size ∧ ∀ i j, i < n → j < n → w.cell? ⟨b, o + (i * n + j), none⟩ = some (.int .i64 (qat n xs i j))) := fun i j hi hj => by
    obtain ⟨b, o, e, hb, hc⟩ := h3 (i * n + j) (by rw [HLen.out]; exact place_lt hi hj)
    exact ⟨b, o, e, hb, fun i j hi hj => hc (i * n + j) (by rw [HLen.out]; exact place_lt hi hj)⟩
  clear hL h3
  go_enter Try.func23, Try.ntmps23
  go_wp2_with fail
  go_loop [4, 5] (fun c s => ∃ i : Nat, i ≤ n ∧ s = .int .i64 i ∧ c = .int .i64 (refC n xs i 0 0 0)) (fun _ s => n - (intOf s).toNat)
  case atStart => exact ⟨0, by omega, rfl, rfl⟩
  case round =>
    obtain ⟨i, hi, rfl, rfl⟩ := hrel
    by_cases hil : i < n
    · have Hi := Lib.hid (refC_i n xs i)
      go_wp2_with fail
      go_loop [4, 6] (fun c s => ∃ k : Nat, i + 1 + k ≤ n ∧ s = .int .i64 ((i : Int) + 1 + k) ∧ c = .int .i64 (refC n xs i k 0 0)) (fun _ s => n - (intOf s).toNat)
      case atStart => exact ⟨0, by omega, by go_num, rfl⟩
      case round =>
        obtain ⟨k, hk, rfl, rfl⟩ := hrel
        by_cases hkl : i + 1 + k < n
        · have Hk := Lib.hid (refC_k n xs i k)
          go_wp2_with fail
          go_loop [4, 7] (fun c s => ∃ j : Nat, j ≤ n ∧ s = .int .i64 j ∧ c = .int .i64 (refC n xs i k j 0)) (fun _ s => n - (intOf s).toNat)
          case atStart => exact ⟨0, by omega, rfl, rfl⟩
          case round =>
            obtain ⟨j, hj, rfl, rfl⟩ := hrel
            by_cases hjl : j < n
            · have Hj := Lib.hid (refC_j n xs i k j)
              go_wp2_with fail
              go_loop [4, 8] (fun c s => ∃ l : Nat, j + 1 + l ≤ n ∧ s = .int .i64 ((j : Int) + 1 + l) ∧ c = .int .i64 (refC n xs i k j l)) (fun _ s => n - (intOf s).toNat)
              case atStart => exact ⟨0, by omega, by go_num, rfl⟩
              case round =>
                obtain ⟨l, hl, rfl, rfl⟩ := hrel
                by_cases hll : j + 1 + l < n
                · have Hl := Lib.hid (refC_l n xs i k j l)
                  have hcb := refC_le hn8 xs (i := i) (k := k) (j := j) (l := l) (by omega) (by omega) (by omega) (by omega)
                  obtain ⟨b, o, rfl, hb, hc⟩ := H3.out i j hil hjl
                  have c1 := hc i j hil hjl
                  have c2 := hc i (j + 1 + l) hil hll
                  have c3 := hc (i + 1 + k) j hkl hjl
                  have c4 := hc (i + 1 + k) (j + 1 + l) hkl hll
                  have p1 : i * n + j < xs.length := by rw [HLen.out]; exact place_lt hil hjl
                  have p2 : i * n + (j + 1 + l) < xs.length := by rw [HLen.out]; exact place_lt hil hll
                  have p3 : (i + 1 + k) * n + j < xs.length := by rw [HLen.out]; exact place_lt hkl hjl
                  have p4 : (i + 1 + k) * n + (j + 1 + l) < xs.length := by rw [HLen.out]; exact place_lt hkl hll
                  have m1 := int_val (wrap_mul8 (i := i) (n := n) (by omega) (by omega))
                  have m2 := int_val (wrap_mul8 (i := i + 1 + k) (n := n) (by omega) (by omega))
                  rw [show (((i + 1 + k : Nat)) : Int) = (i : Int) + 1 + k by omega] at m2
                  have q1 : i * n ≤ 64 := Nat.mul_le_mul (show i ≤ 8 by omega) (show n ≤ 8 by omega)
                  have q2 : (i + 1 + k) * n ≤ 64 := Nat.mul_le_mul (show i + 1 + k ≤ 8 by omega) (show n ≤ 8 by omega)
                  obtain ⟨d1, d2, hw⟩ := ref_way HL.out (i := i) (k := i + 1 + k) (j := j) (l := j + 1 + l) (by omega) hkl (by omega) hll
                  clear hc
                  generalize i * n = qi at *
                  generalize (i + 1 + k) * n = qk at *
                  rcases hw with ⟨e1, ec⟩ | ⟨e1, e2, ec⟩ | ⟨e1, e2, ec⟩
                  all_goals
                    have Hec := Lib.hid ec; clear ec
                    go_wp2_with fail
                    clear m1 m2
                    go_round
                    case rel => exact ⟨l + 1, by omega, by go_num, by rw [Hl.out, Hec.out]; go_num⟩
                    case measure => simp [intOf]; omega
                · obtain rfl : l = n - (j + 1) := by omega
                  go_wp2_with fail
                  go_round
                  case rel => exact ⟨j + 1, by omega, by go_num, by rw [Hj.out]⟩
                  case measure => simp [intOf]; omega
            · obtain rfl : j = n := by omega
              go_wp2_with fail
              go_round
              case rel => exact ⟨k + 1, by omega, by go_num, by rw [Hk.out]⟩
              case measure => simp [intOf]; omega
        · obtain rfl : k = n - (i + 1) := by omega
          go_wp2_with fail
          go_round
          case rel => exact ⟨i + 1, by omega, by go_num, by rw [Hi.out]⟩
          case measure => simp [intOf]; omega
    · obtain rfl : i = n := by omega
      go_wp2_with fail
      go_ret
      exact ⟨ret_int (by rw [← Hs.out]; rfl), below_box _ _⟩

end Go.Proofs.Ytkmfhnjadpdkeaa
