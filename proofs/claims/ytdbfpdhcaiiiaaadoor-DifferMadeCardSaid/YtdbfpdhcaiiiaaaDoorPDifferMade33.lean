/-
  Contract: the count of transversals, row by row. No condition.
  Contracts: the reference's look at a square. No condition.
  Contracts: the program's look at a square (twice, Check). No condition.
  Contract: latin.Check tells what is wrong with a square. No condition.
  Contract: latin.Transversals. No condition.
-/
import Derived.Test.YtdbfpdhcaiiiaaaDoorRows
import Derived.Test.YtdbfpdhcaiiiaaaDoorPDifferMade32
import Derived.Test.YtdbfpdhcaiiiaaaDoorPDifferMade2
import Derived.Test.YtdbfpdhcaiiiaaaDoorPDifferMade6
import Derived.Laws.EntriesVeiled
namespace Go.Proofs.YtdbfpdhcaiiiaaaDoor
open Go.RowKit

def sumTo (f : Nat → Nat) : Nat → Nat
  | 0 => 0
  | k + 1 => sumTo f k + f k
theorem sumTo_le {f : Nat → Nat} {M : Nat} : ∀ k, (∀ i, i < k → f i ≤ M) → sumTo f k ≤ k * M
  | 0, _ => by simp [sumTo]
  | k + 1, h => by
    have h1 := sumTo_le k (fun i hi => h i (by omega))
    have h2 := h k (by omega)
    rw [sumTo, Nat.succ_mul]; omega

/-- How many ways there are to choose l rows more, from a row on, columns and numbers being taken. -/
def transM (n : Nat) (xs : List Int) : Nat → Nat → Nat → Nat → Nat
  | 0, _, _, _ => 1
  | l + 1, r, C, D => sumTo (fun k => if tb C k || tb D (qat n xs r k).toNat then 0 else transM n xs l (r + 1) (sb C k) (sb D (qat n xs r k).toNat)) n
def transF (n : Nat) (xs : List Int) (l r C D k : Nat) : Nat := if tb C k || tb D (qat n xs r k).toNat then 0 else transM n xs l (r + 1) (sb C k) (sb D (qat n xs r k).toNat)
def transTo (n : Nat) (xs : List Int) (l r C D k : Nat) : Nat := sumTo (transF n xs l r C D) k
theorem transM_succ (n : Nat) (xs : List Int) (l r C D : Nat) : transM n xs (l + 1) r C D = transTo n xs l r C D n := rfl
theorem transTo_succ (n : Nat) (xs : List Int) (l r C D k : Nat) : transTo n xs l r C D (k + 1) = transTo n xs l r C D k + transF n xs l r C D k := rfl
theorem transM_le (n : Nat) (xs : List Int) (hn : n ≤ 8) : ∀ l r C D, transM n xs l r C D ≤ 8 ^ l
  | 0, _, _, _ => Nat.le_refl _
  | l + 1, r, C, D => by
    rw [transM_succ]
    have := sumTo_le (f := transF n xs l r C D) (M := 8 ^ l) n (fun i _ => by
      unfold transF; split
      · exact Nat.zero_le _
      · exact transM_le n xs hn _ _ _ _)
    have h2 : n * 8 ^ l ≤ 8 * 8 ^ l := Nat.mul_le_mul hn (Nat.le_refl _)
    have h3 : 8 * 8 ^ l = 8 ^ (l + 1) := by rw [Nat.pow_succ, Nat.mul_comm]
    unfold transTo; omega
theorem transTo_le (n : Nat) (xs : List Int) (hn : n ≤ 8) (l r C D k : Nat) (hl : l ≤ 7) (hk : k ≤ 8) : transTo n xs l r C D k ≤ 16777216 := by
  have h1 := sumTo_le (f := transF n xs l r C D) (M := 8 ^ l) k (fun i _ => by
    unfold transF; split
    · exact Nat.zero_le _
    · exact transM_le n xs hn _ _ _ _)
  have h2 : 8 ^ l ≤ 8 ^ 7 := Nat.pow_le_pow_right (by omega) hl
  have h3 : k * 8 ^ l ≤ 8 * 8 ^ 7 := Nat.mul_le_mul hk h2
  unfold transTo; omega
theorem pow256 {n : Nat} (h : n ≤ 8) : 2 ^ n ≤ 256 := Nat.pow_le_pow_right (show 0 < 2 by omega) h
theorem int_val {a b : Int} (h : a = b) : Value.int .i64 a = Value.int .i64 b := by rw [h]
theorem wrap_mul8 {i n : Nat} (hi : i ≤ 64) (hn : n ≤ 64) : wrap64 ((i : Int) * (n : Int)) = ((i * n : Nat) : Int) := by
  have : i * n ≤ 64 * 64 := Nat.mul_le_mul hi hn
  rw [← Int.natCast_mul]
  generalize i * n = q at *
  exact IntWalk.wrap64_in _ ⟨by omega, by omega⟩

set_option maxHeartbeats 1000000 in
theorem trans1_any (n : Nat) (xs : List Int) (hL : IsLatin n xs) (bn bs bc : Nat) (v : Value) : ∀ (l row C D : Nat) (w : World), row + l = n → IntsAt w v xs → C < 256 → D < 256 →
    w.cell? ⟨bn, 0, none⟩ = some (.int .i64 n) → w.cell? ⟨bs, 1, none⟩ = some v →
    w.cell? ⟨bc, 0, none⟩ = some (.func (.func 56) #[] #[.pointer (some ⟨bn, 0, none⟩), .pointer (some ⟨bs, 0, none⟩), .pointer (some ⟨bc, 0, none⟩)]) →
    Calls Tryd.prog 56 #[.int .i64 row, .int .i64 C, .int .i64 D, .pointer (some ⟨bn, 0, none⟩), .pointer (some ⟨bs, 0, none⟩), .pointer (some ⟨bc, 0, none⟩)] w
      fun e w' => e = .returned (.int .i64 (transM n xs l row C D)) ∧ ∃ nd, w' = w.drewN nd := by
  have hn8 : n ≤ 8 := by have := hL.hi; omega
  have HL := Lib.hid hL; clear hL
  intro l
  induction l with
  | zero =>
    intro row C D w hr _ _ _ hbn _ _
    obtain rfl : row = n := by omega
    go_enter Tryd.func56, Tryd.ntmps56
    go_wp2_with fail
    go_ret
    exact ⟨rfl, 0, rfl⟩
  | succ l ih =>
    intro row C D w hr h hC hD hbn hbs hbc
    have HI := Lib.hid h
    have Hlen := Lib.hid HL.out.lenN
    have IH := Lib.hid ih
    clear ih
    have hrow : row < n := by omega
    obtain ⟨a, c, rfl, h1, h2, _, h3⟩ := h
    have hne : ((row : Int) == (n : Int)) = false := by simp; omega
    rw [transM_succ]
    go_enter Tryd.func56, Tryd.ntmps56
    go_wp2_with fail
    go_loopw [10, 17] (fun s j wr => ∃ k nd : Nat, k ≤ n ∧ s = .int .i64 (transTo n xs l row C D k) ∧ j = .int .i64 k ∧ wr = w.drewN nd) (fun _ j _ => n - (intOf j).toNat)
    case atStart => exact ⟨0, 0, by omega, rfl, rfl, rfl⟩
    case round =>
      obtain ⟨k, nd, hk, rfl, rfl, hwr⟩ := hrel
      have Hwr : Hid (wr = w.drewN nd) := hwr
      have HIr := Lib.hid (show IntsAt wr (.slice a xs.length c) xs by rw [hwr]; exact HI.out)
      have hbn' := hbn; rw [show w.cell? ⟨bn, 0, none⟩ = wr.cell? ⟨bn, 0, none⟩ by rw [hwr]; rfl] at hbn'
      have hbs' := hbs; rw [show w.cell? ⟨bs, 1, none⟩ = wr.cell? ⟨bs, 1, none⟩ by rw [hwr]; rfl] at hbs'
      have hbc' := hbc; rw [show w.cell? ⟨bc, 0, none⟩ = wr.cell? ⟨bc, 0, none⟩ by rw [hwr]; rfl] at hbc'
      clear hwr
      by_cases hlt : k < n
      · have hpl : row * n + k < xs.length := by rw [Hlen.out]; exact place_lt hrow hlt
        obtain ⟨b, o, rfl, hbb, hc⟩ := h3 _ hpl
        have hcell0 := hc _ hpl
        have hxr := HL.out.cell hrow hlt
        obtain ⟨x, hx⟩ : ∃ x : Nat, qat n xs row k = x := Int.eq_ofNat_of_zero_le hxr.1
        rw [hx] at hxr
        have hcell : wr.cell? ⟨b, o + (row * n + k), none⟩ = some (.int .i64 x) := by rw [Hwr.out, ← hx]; exact hcell0
        clear hcell0
        have hx8 : x < n := by omega
        have hF : Hid (transF n xs l row C D k = if tb C k || tb D x then 0 else transM n xs l (row + 1) (sb C k) (sb D x)) := by
          show _ = _; unfold transF; rw [hx, Int.toNat_natCast]
        have hsuc := Lib.hid (transTo_succ n xs l row C D k)
        have hS := transTo_le n xs hn8 l row C D k (by omega) (by omega)
        clear hx hxr hc h3
        have hw := int_val (wrap_mul8 (i := row) (n := n) (by omega) (by omega))
        have hin : row * n ≤ 64 := Nat.mul_le_mul (show row ≤ 8 by omega) (show n ≤ 8 by omega)
        have hnum1 : (C : Nat) < 9223372036854775808 := by omega
        have ht1 := shr_and_zero C k (by omega)
        have ht2 := shr_and_zero D x (by omega)
        generalize row * n = q at *
        cases e1 : tb C k
        · cases e2 : tb D x
          · rw [e1] at ht1; rw [e2] at ht2
            have HF : Hid (transF n xs l row C D k = transM n xs l (row + 1) (sb C k) (sb D x)) := by show _ = _; rw [hF.out, e1, e2]; rfl
            have hT := transM_le n xs hn8 l (row + 1) (sb C k) (sb D x)
            have hT2 : 8 ^ l ≤ 8 ^ 7 := Nat.pow_le_pow_right (by omega) (by omega)
            have hsC : sb C k < 256 := sb_lt (m := 8) hC (by omega)
            have hsD : sb D x < 256 := sb_lt (m := 8) hD (by omega)
            have ho1 := or_raw (c := C) (j := k) (by omega) (by omega)
            have ho2 := or_raw (c := D) (j := x) (by omega) (by omega)
            have hT3 : transM n xs l (row + 1) (sb C k) (sb D x) ≤ 2097152 := by omega
            clear hT hT2 e1 e2
            have Hc : Hid (∀ m, Calls Tryd.prog 56 #[.int .i64 ((row : Int) + 1), .int .i64 (sb C k), .int .i64 (sb D x), .pointer (some ⟨bn, 0, none⟩), .pointer (some ⟨bs, 0, none⟩), .pointer (some ⟨bc, 0, none⟩)] (wr.drewN m)
                fun e w' => e = .returned (.int .i64 (transM n xs l (row + 1) (sb C k) (sb D x))) ∧ ∃ nd, w' = (wr.drewN m).drewN nd) := fun m => by
              have := IH.out (row + 1) (sb C k) (sb D x) (wr.drewN m) (by omega) HIr.out hsC hsD hbn' hbs' hbc'
              rw [Int.natCast_add] at this
              exact this
            clear hsC hsD
            go_wp2_with fail
            go_quiet (exact Calls.quiet_of (Hc.out _))
            clear ht1 ht2 ho1 ho2
            go_wp2
            go_roundw
            case rel => exact ⟨k + 1, nd + nq, by omega, by rw [hsuc.out, HF.out]; go_num, by go_num, by rw [Hwr.out, World.drewN_drewN]⟩
            case measure => simp [intOf]; omega
          · rw [e1] at ht1; rw [e2] at ht2
            have HF : Hid (transF n xs l row C D k = 0) := by show _ = _; rw [hF.out, e1, e2]; rfl
            clear e1 e2
            go_wp2_with fail
            clear ht1 ht2
            go_roundw
            case rel => exact ⟨k + 1, nd, by omega, by rw [hsuc.out, HF.out]; go_num, by go_num, Hwr.out⟩
            case measure => simp [intOf]; omega
        · rw [e1] at ht1
          have HF : Hid (transF n xs l row C D k = 0) := by show _ = _; rw [hF.out, e1]; rfl
          clear e1 ht2
          go_wp2_with fail
          clear ht1
          go_roundw
          case rel => exact ⟨k + 1, nd, by omega, by rw [hsuc.out, HF.out]; go_num, by go_num, Hwr.out⟩
          case measure => simp [intOf]; omega
      · obtain rfl : k = n := by omega
        go_wp2_with fail
        go_ret
        exact ⟨rfl, nd, Hwr.out⟩

end Go.Proofs.YtdbfpdhcaiiiaaaDoor

namespace Go.Proofs.YtdbfpdhcaiiiaaaDoor
open Go.RowKit
end Go.Proofs.YtdbfpdhcaiiiaaaDoor

namespace Go.Proofs.YtdbfpdhcaiiiaaaDoor
open Go.RowKit

set_option maxHeartbeats 1000000 in
theorem twice_any (v : Value) (xs : List Int) (n : Nat) (w : World) (h : IntsAt w v xs) (hn : 1 ≤ n) (hn' : n ≤ 8) (hx : ∀ k, k < xs.length → 0 ≤ ix xs k ∧ ix xs k < 8) (hl : xs.length ≤ n * 8) :
    Calls Tryd.prog 59 #[.int .i64 n, v] w fun e w' => e = .returned (.bool (!onceB n xs)) ∧ Below w.heap.size w w' := by
  have hI := h
  obtain ⟨a, c, rfl, h1, h2, _, h3⟩ := h
  have Hx := Lib.hid hx; clear hx
  go_enter Tryd.func59, Tryd.ntmps59
  go_wp2
  go_loopw [11] (fun i wr => ∃ k : Nat, k ≤ xs.length ∧ i = .int .i64 k ∧ clashTo n xs k = false ∧ Below w.heap.size w wr ∧ Flags wr w.heap.size 64 (rowSeen n xs k) ∧ Flags wr (w.heap.size + 1) 64 (colSeen n xs k)) (fun i _ => xs.length - (intOf i).toNat)
  case atStart =>
    refine ⟨0, by omega, rfl, rfl, ((Below.refl _ _).alloc (Nat.le_refl _) _).alloc (by simp) _, ?_, ?_⟩
    · exact Arr.alloc (Arr.newOf _ 64 _ _ _ rfl) _
    · exact Arr.newAt _ 64 _ _ _ _ (by simp) rfl
  case round =>
    obtain ⟨k, hk, rfl, hn, hb, hfr, hfc⟩ := hrel
    have Hn := Lib.hid hn; clear hn
    by_cases hlt : k < xs.length
    · obtain ⟨b, o, rfl, hb', hc⟩ := h3 k hlt
      have hcell := hc k hlt
      clear hc h3
      rw [← hb.cell (p := ⟨b, o + k, none⟩) hb'] at hcell
      have hxb := Hx.out k hlt
      have hseen := seen_clash (n := n) k Hx.out hlt k (Nat.le_refl _)
      have Hr : Hid (Flags wr w.heap.size 64 (rowSeen n xs k)) := hfr
      have Hc : Hid (Flags wr (w.heap.size + 1) 64 (colSeen n xs k)) := hfc
      clear hfr hfc
      obtain ⟨x, hxk⟩ : ∃ x : Nat, ix xs k = x := Int.eq_ofNat_of_zero_le hxb.1
      have Hs1 : Hid (∀ j, rowSeen n xs (k + 1) j = (rowSeen n xs k j || dv k n * 8 + x == j)) := fun j => by rw [rowSeen, hxk]; rfl
      have Hs2 : Hid (∀ j, colSeen n xs (k + 1) j = (colSeen n xs k j || md k n * 8 + x == j)) := fun j => by rw [colSeen, hxk]; rfl
      rw [hxk] at hxb hcell hseen
      simp only [Int.toNat_natCast] at hseen
      have Hseen := Lib.hid hseen
      clear hseen hxk
      have hdv : dv k n < 8 := by unfold dv; exact (Nat.div_lt_iff_lt_mul (by omega)).2 (by rw [Nat.mul_comm]; omega)
      have hmd : md k n < 8 := by unfold md; have := Nat.mod_lt k (show 0 < n by omega); omega
      have hq1 := wrap_dv (i := k) (n := n) (by omega)
      have hq2 : ((k : Int) % (n : Int)) = ((md k n : Nat) : Int) := by unfold md; omega
      have r1 : wr.cell? ⟨w.heap.size, dv k n * 8 + x, none⟩ = _ := Arr.cell Hr.out (by omega)
      have r2 : wr.frozen? ⟨w.heap.size, dv k n * 8 + x, none⟩ = _ := Arr.free Hr.out (by omega)
      have c1 : wr.cell? ⟨w.heap.size + 1, md k n * 8 + x, none⟩ = _ := Arr.cell Hc.out (by omega)
      have c2 : wr.frozen? ⟨w.heap.size + 1, md k n * 8 + x, none⟩ = _ := Arr.free Hc.out (by omega)
      cases e1 : rowSeen n xs k (dv k n * 8 + x)
      · cases e2 : colSeen n xs k (md k n * 8 + x)
        · rw [e1] at r1; rw [e2] at c1
          have Hno : Hid (clashRow n xs k k = false) := by rw [← Hseen.out, e1, e2]; rfl
          clear e1 e2
          go_wp2
          go_region
          all_goals
            clear hq1 hq2 r1 r2 c1 c2
            go_wp2
            go_roundw
            case rel =>
              refine ⟨k + 1, by omega, by go_num, by rw [clashTo, Hn.out, Hno.out]; rfl, ?_, ?_, ?_⟩
              · exact ((hb.setCell (Nat.le_refl _) _).setCell (Nat.le_succ _) _).drew
              · exact (Arr.setOther (Arr.congr (Flags.set Hr.out (show dv k n * 8 + x < 64 by omega)) (fun j _ => by rw [Hs1.out j])) (by simp) _).drew
              · exact (Arr.congr (Flags.set (Arr.setOther Hc.out (by simp) _) (show md k n * 8 + x < 64 by omega)) (fun j _ => by rw [Hs2.out j])).drew
            case measure => simp [intOf]; omega
        · rw [e1] at r1; rw [e2] at c1
          have Hno : Hid (clashRow n xs k k = true) := by rw [← Hseen.out, e1, e2]; rfl
          clear e1 e2
          go_wp2
          go_ret
          exact ⟨ret_bool (once_hit2 hlt Hno.out).symm, hb⟩
      · rw [e1] at r1
        have Hno : Hid (clashRow n xs k k = true) := by rw [← Hseen.out, e1]; rfl
        clear e1 c1
        go_wp2
        go_ret
        exact ⟨ret_bool (once_hit2 hlt Hno.out).symm, hb⟩
    · obtain rfl : k = xs.length := by omega
      go_wp2
      go_ret
      exact ⟨ret_bool (by rw [onceB, Hn.out]; rfl), hb⟩

theorem twice_int (v : Value) (xs : List Int) (n : Int) (w : World) (h : IntsAt w v xs) (hn : 1 ≤ n) (hn' : n ≤ 8) (hx : ∀ k, k < xs.length → 0 ≤ ix xs k ∧ ix xs k < 8) (hl : (xs.length : Int) ≤ n * 8) :
    Calls Tryd.prog 59 #[.int .i64 n, v] w fun e w' => e = .returned (.bool (!onceB n.toNat xs)) ∧ Below w.heap.size w w' := by
  obtain ⟨m, rfl⟩ := Int.eq_ofNat_of_zero_le (show 0 ≤ n by omega)
  exact twice_any v xs m w h (by omega) (by omega) hx (by omega)

/-- side -/
def sideB (n : Int) : Bool := decide (1 ≤ n ∧ n ≤ 8)
theorem side_any (n : Int) (w : World) : Calls Tryd.prog 25 #[.int .i64 n] w fun e w' => e = .returned (.bool (sideB n)) ∧ w = w' := by
  by_cases h1 : 1 ≤ n
  · have e1 : decide (1 ≤ n) = true := by simpa using h1
    cases e2 : decide (n ≤ 8)
    all_goals
      have hs : sideB n = decide (n ≤ 8) := by simp [sideB, h1]
      rw [e2] at hs
      have Hs := Lib.hid hs; clear hs
      go_enter Tryd.func25, Tryd.ntmps25
      go_wp2
      go_ret
      exact ⟨ret_bool (by rw [Hs.out]), rfl⟩
  · have hs : sideB n = false := by simp [sideB, h1]
    have Hs := Lib.hid hs; clear hs
    have e1 : decide (1 ≤ n) = false := by simpa using h1
    go_enter Tryd.func25, Tryd.ntmps25
    go_wp2
    go_ret
    exact ⟨ret_bool (by rw [Hs.out]), rfl⟩

/-- The test of one number, as latin.Check's closure makes it. -/
def outB (n x : Int) : Bool := decide (x < 0 ∨ n ≤ x)
theorem outB_neg {n x : Int} (h : x < 0) : outB n x = true := by simp [outB, h]
theorem outB_pos {n x : Int} (h : ¬ x < 0) : outB n x = decide (n ≤ x) := by simp [outB, h]
end Go.Proofs.YtdbfpdhcaiiiaaaDoor

namespace Go.Proofs.YtdbfpdhcaiiiaaaDoor
open Go.RowKit

theorem any_out {side : Int} {xs : List Int} (h : anyB (outB side) xs = false) : ∀ k, k < xs.length → 0 ≤ ix xs k ∧ ix xs k < side := by
  intro k hk
  unfold anyB at h
  rw [List.any_eq_false] at h
  have := h _ (ix_mem hk)
  simp [outB] at this
  omega

end Go.Proofs.YtdbfpdhcaiiiaaaDoor

namespace Go.Proofs.YtdbfpdhcaiiiaaaDoor
open Go.RowKit

def transFault (side : Int) (xs : List Int) : Int := if latinFault side xs ≠ 0 then latinFault side xs else if 7 < side then 3 else 0
def transCount (side : Int) (xs : List Int) : Nat := if transFault side xs = 0 then transM side.toNat xs side.toNat 0 0 0 else 0

end Go.Proofs.YtdbfpdhcaiiiaaaDoor
