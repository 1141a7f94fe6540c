/-
  Contract: the count of transversals, row by row. No condition.
-/
import Derived.Test.YtdbfpdhcaiiiaaaDoorRows
import Derived.Test.YtdbfpdhcaiiiaaaDoorLaw1
import Derived.Test.YtdbfpdhcaiiiaaaDoorBits
namespace Go.Proofs.YtdbfpdhcaiiiaaaDoor
open Go.RowKit

def sumTo (f : Nat → Nat) : Nat → Nat
  | 0 => 0
  | k + 1 => sumTo f k + f k
theorem sumTo_le {f : Nat → Nat} {M : Nat} : ∀ k, (∀ i, i < k → f i ≤ M) → sumTo f k ≤ k * M
  | 0, _ => by simp [sumTo]
  | k + 1, h => by
    have h1 := sumTo_le k (fun i hi => h i (by omega))
    have h2 := h k (by omega)
    rw [sumTo, Nat.succ_mul]; omega

/-- How many ways there are to choose l rows more, from a row on, columns and numbers being taken. -/
def transM (n : Nat) (xs : List Int) : Nat → Nat → Nat → Nat → Nat
  | 0, _, _, _ => 1
  | l + 1, r, C, D => sumTo (fun k => if tb C k || tb D (qat n xs r k).toNat then 0 else transM n xs l (r + 1) (sb C k) (sb D (qat n xs r k).toNat)) n
def transF (n : Nat) (xs : List Int) (l r C D k : Nat) : Nat := if tb C k || tb D (qat n xs r k).toNat then 0 else transM n xs l (r + 1) (sb C k) (sb D (qat n xs r k).toNat)
def transTo (n : Nat) (xs : List Int) (l r C D k : Nat) : Nat := sumTo (transF n xs l r C D) k
theorem transM_succ (n : Nat) (xs : List Int) (l r C D : Nat) : transM n xs (l + 1) r C D = transTo n xs l r C D n := rfl
theorem transTo_succ (n : Nat) (xs : List Int) (l r C D k : Nat) : transTo n xs l r C D (k + 1) = transTo n xs l r C D k + transF n xs l r C D k := rfl
theorem transM_le (n : Nat) (xs : List Int) (hn : n ≤ 8) : ∀ l r C D, transM n xs l r C D ≤ 8 ^ l
  | 0, _, _, _ => Nat.le_refl _
  | l + 1, r, C, D => by
    rw [transM_succ]
    have := sumTo_le (f := transF n xs l r C D) (M := 8 ^ l) n (fun i _ => by
      unfold transF; split
      · exact Nat.zero_le _
      · exact transM_le n xs hn _ _ _ _)
    have h2 : n * 8 ^ l ≤ 8 * 8 ^ l := Nat.mul_le_mul hn (Nat.le_refl _)
    have h3 : 8 * 8 ^ l = 8 ^ (l + 1) := by rw [Nat.pow_succ, Nat.mul_comm]
    unfold transTo; omega
theorem transTo_le (n : Nat) (xs : List Int) (hn : n ≤ 8) (l r C D k : Nat) (hl : l ≤ 7) (hk : k ≤ 8) : transTo n xs l r C D k ≤ 16777216 := by
  have h1 := sumTo_le (f := transF n xs l r C D) (M := 8 ^ l) k (fun i _ => by
    unfold transF; split
    · exact Nat.zero_le _
    · exact transM_le n xs hn _ _ _ _)
  have h2 : 8 ^ l ≤ 8 ^ 7 := Nat.pow_le_pow_right (by omega) hl
  have h3 : k * 8 ^ l ≤ 8 * 8 ^ 7 := Nat.mul_le_mul hk h2
  unfold transTo; omega
theorem pow256 {n : Nat} (h : n ≤ 8) : 2 ^ n ≤ 256 := Nat.pow_le_pow_right (show 0 < 2 by omega) h
theorem int_val {a b : Int} (h : a = b) : Value.int .i64 a = Value.int .i64 b := by rw [h]
theorem wrap_mul8 {i n : Nat} (hi : i ≤ 64) (hn : n ≤ 64) : wrap64 ((i : Int) * (n : Int)) = ((i * n : Nat) : Int) := by
  have : i * n ≤ 64 * 64 := Nat.mul_le_mul hi hn
  rw [← Int.natCast_mul]
  generalize i * n = q at *
  exact IntWalk.wrap64_in _ ⟨by omega, by omega⟩

set_option maxHeartbeats 1000000 in
theorem trans1_any (n : Nat) (xs : List Int) (hL : IsLatin n xs) (bn bs bc : Nat) (v : Value) : ∀ (l row C D : Nat) (w : World), row + l = n → IntsAt w v xs → C < 256 → D < 256 →
    w.cell? ⟨bn, 0, none⟩ = some (.int .i64 n) → w.cell? ⟨bs, 1, none⟩ = some v →
    w.cell? ⟨bc, 0, none⟩ = some (.func (.func 56) #[] #[.pointer (some ⟨bn, 0, none⟩), .pointer (some ⟨bs, 0, none⟩), .pointer (some ⟨bc, 0, none⟩)]) →
    Calls Tryd.prog 56 #[.int .i64 row, .int .i64 C, .int .i64 D, .pointer (some ⟨bn, 0, none⟩), .pointer (some ⟨bs, 0, none⟩), .pointer (some ⟨bc, 0, none⟩)] w
      fun e w' => e = .returned (.int .i64 (transM n xs l row C D)) ∧ ∃ nd, w' = w.drewN nd := by
  have hn8 : n ≤ 8 := by have := hL.hi; omega
  have HL := Lib.hid hL; clear hL
  intro l
  induction l with
  | zero =>
    intro row C D w hr _ _ _ hbn _ _
    obtain rfl : row = n := by omega
    go_enter Tryd.func56, Tryd.ntmps56
    go_wp2_with fail
    go_ret
    exact ⟨rfl, 0, rfl⟩
  | succ l ih =>
    intro row C D w hr h hC hD hbn hbs hbc
    have HI := Lib.hid h
    have Hlen := Lib.hid HL.out.lenN
    have IH := Lib.hid ih
    clear ih
    have hrow : row < n := by omega
    obtain ⟨a, c, rfl, h1, h2, _, h3⟩ := h
    have hne : ((row : Int) == (n : Int)) = false := by simp; omega
    rw [transM_succ]
    go_enter Tryd.func56, Tryd.ntmps56
    go_wp2_with fail
    go_loopw [10, 17] (fun s j wr => ∃ k nd : Nat, k ≤ n ∧ s = .int .i64 (transTo n xs l row C D k) ∧ j = .int .i64 k ∧ wr = w.drewN nd) (fun _ j _ => n - (intOf j).toNat)
    case atStart => exact ⟨0, 0, by omega, rfl, rfl, rfl⟩
    case round =>
      obtain ⟨k, nd, hk, rfl, rfl, hwr⟩ := hrel
      have Hwr : Hid (wr = w.drewN nd) := hwr
      have HIr := Lib.hid (show IntsAt wr (.slice a xs.length c) xs by rw [hwr]; exact HI.out)
      have hbn' := hbn; rw [show w.cell? ⟨bn, 0, none⟩ = wr.cell? ⟨bn, 0, none⟩ by rw [hwr]; rfl] at hbn'
      have hbs' := hbs; rw [show w.cell? ⟨bs, 1, none⟩ = wr.cell? ⟨bs, 1, none⟩ by rw [hwr]; rfl] at hbs'
      have hbc' := hbc; rw [show w.cell? ⟨bc, 0, none⟩ = wr.cell? ⟨bc, 0, none⟩ by rw [hwr]; rfl] at hbc'
      clear hwr
      by_cases hlt : k < n
      · have hpl : row * n + k < xs.length := by rw [Hlen.out]; exact place_lt hrow hlt
        obtain ⟨b, o, rfl, hbb, hc⟩ := h3 _ hpl
        have hcell0 := hc _ hpl
        have hxr := HL.out.cell hrow hlt
        obtain ⟨x, hx⟩ : ∃ x : Nat, qat n xs row k = x := Int.eq_ofNat_of_zero_le hxr.1
        rw [hx] at hxr
        have hcell : wr.cell? ⟨b, o + (row * n + k), none⟩ = some (.int .i64 x) := by rw [Hwr.out, ← hx]; exact hcell0
        clear hcell0
        have hx8 : x < n := by omega
        have hF : Hid (transF n xs l row C D k = if tb C k || tb D x then 0 else transM n xs l (row + 1) (sb C k) (sb D x)) := by
          show _ = _; unfold transF; rw [hx, Int.toNat_natCast]
        have hsuc := Lib.hid (transTo_succ n xs l row C D k)
        have hS := transTo_le n xs hn8 l row C D k (by omega) (by omega)
        clear hx hxr hc h3
        have hw := int_val (wrap_mul8 (i := row) (n := n) (by omega) (by omega))
        have hin : row * n ≤ 64 := Nat.mul_le_mul (show row ≤ 8 by omega) (show n ≤ 8 by omega)
        have hnum1 : (C : Nat) < 9223372036854775808 := by omega
        have ht1 := shr_and_zero C k (by omega)
        have ht2 := shr_and_zero D x (by omega)
        generalize row * n = q at *
        cases e1 : tb C k
        · cases e2 : tb D x
          · rw [e1] at ht1; rw [e2] at ht2
            have HF : Hid (transF n xs l row C D k = transM n xs l (row + 1) (sb C k) (sb D x)) := by show _ = _; rw [hF.out, e1, e2]; rfl
            have hT := transM_le n xs hn8 l (row + 1) (sb C k) (sb D x)
            have hT2 : 8 ^ l ≤ 8 ^ 7 := Nat.pow_le_pow_right (by omega) (by omega)
            have hsC : sb C k < 256 := sb_lt (m := 8) hC (by omega)
            have hsD : sb D x < 256 := sb_lt (m := 8) hD (by omega)
            have ho1 := or_raw (c := C) (j := k) (by omega) (by omega)
            have ho2 := or_raw (c := D) (j := x) (by omega) (by omega)
            have hT3 : transM n xs l (row + 1) (sb C k) (sb D x) ≤ 2097152 := by omega
            clear hT hT2 e1 e2
            have Hc : Hid (∀ m, Calls Tryd.prog 56 #[.int .i64 ((row : Int) + 1), .int .i64 (sb C k), .int .i64 (sb D x), .pointer (some ⟨bn, 0, none⟩), .pointer (some ⟨bs, 0, none⟩), .pointer (some ⟨bc, 0, none⟩)] (wr.drewN m)
                fun e w' => e = .returned (.int .i64 (transM n xs l (row + 1) (sb C k) (sb D x))) ∧ ∃ nd, w' = (wr.drewN m).drewN nd) := fun m => by
              have := IH.out (row + 1) (sb C k) (sb D x) (wr.drewN m) (by omega) HIr.out hsC hsD hbn' hbs' hbc'
              rw [Int.natCast_add] at this
              exact this
            clear hsC hsD
            go_wp2_with fail
            go_quiet (exact Calls.quiet_of (Hc.out _))
            clear ht1 ht2 ho1 ho2
            go_wp2
            go_roundw
            case rel => exact ⟨k + 1, nd + nq, by omega, by rw [hsuc.out, HF.out]; go_num, by go_num, by rw [Hwr.out, World.drewN_drewN]⟩
            case measure => simp [intOf]; omega
          · rw [e1] at ht1; rw [e2] at ht2
            have HF : Hid (transF n xs l row C D k = 0) := by show _ = _; rw [hF.out, e1, e2]; rfl
            clear e1 e2
            go_wp2_with fail
            clear ht1 ht2
            go_roundw
            case rel => exact ⟨k + 1, nd, by omega, by rw [hsuc.out, HF.out]; go_num, by go_num, Hwr.out⟩
            case measure => simp [intOf]; omega
        · rw [e1] at ht1
          have HF : Hid (transF n xs l row C D k = 0) := by show _ = _; rw [hF.out, e1]; rfl
          clear e1 ht2
          go_wp2_with fail
          clear ht1
          go_roundw
          case rel => exact ⟨k + 1, nd, by omega, by rw [hsuc.out, HF.out]; go_num, by go_num, Hwr.out⟩
          case measure => simp [intOf]; omega
      · obtain rfl : k = n := by omega
        go_wp2_with fail
        go_ret
        exact ⟨rfl, nd, Hwr.out⟩

end Go.Proofs.YtdbfpdhcaiiiaaaDoor
