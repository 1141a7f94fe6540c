/-
  Contracts: the program's look at a square (twice, Check). No condition.
-/
import Derived.Test.YtdbfpdhcaiiiaaaDoorLatin1
import Derived.Test.YtdbfpdhcaiiiaaaDoorFunc
namespace Go.Proofs.YtdbfpdhcaiiiaaaDoor
open Go.RowKit

set_option maxHeartbeats 1000000 in
theorem twice_any (v : Value) (xs : List Int) (n : Nat) (w : World) (h : IntsAt w v xs) (hn : 1 ≤ n) (hn' : n ≤ 8) (hx : ∀ k, k < xs.length → 0 ≤ ix xs k ∧ ix xs k < 8) (hl : xs.length ≤ n * 8) :
    Calls Tryd.prog 59 #[.int .i64 n, v] w fun e w' => e = .returned (.bool (!onceB n xs)) ∧ Below w.heap.size w w' := by
  have hI := h
  obtain ⟨a, c, rfl, h1, h2, _, h3⟩ := h
  have Hx := Lib.hid hx; clear hx
  go_enter Tryd.func59, Tryd.ntmps59
  go_wp2
  go_loopw [11] (fun i wr => ∃ k : Nat, k ≤ xs.length ∧ i = .int .i64 k ∧ clashTo n xs k = false ∧ Below w.heap.size w wr ∧ Flags wr w.heap.size 64 (rowSeen n xs k) ∧ Flags wr (w.heap.size + 1) 64 (colSeen n xs k)) (fun i _ => xs.length - (intOf i).toNat)
  case atStart =>
    refine ⟨0, by omega, rfl, rfl, ((Below.refl _ _).alloc (Nat.le_refl _) _).alloc (by simp) _, ?_, ?_⟩
    · exact Arr.alloc (Arr.newOf _ 64 _ _ _ rfl) _
    · exact Arr.newAt _ 64 _ _ _ _ (by simp) rfl
  case round =>
    obtain ⟨k, hk, rfl, hn, hb, hfr, hfc⟩ := hrel
    have Hn := Lib.hid hn; clear hn
    by_cases hlt : k < xs.length
    · obtain ⟨b, o, rfl, hb', hc⟩ := h3 k hlt
      have hcell := hc k hlt
      clear hc h3
      rw [← hb.cell (p := ⟨b, o + k, none⟩) hb'] at hcell
      have hxb := Hx.out k hlt
      have hseen := seen_clash (n := n) k Hx.out hlt k (Nat.le_refl _)
      have Hr : Hid (Flags wr w.heap.size 64 (rowSeen n xs k)) := hfr
      have Hc : Hid (Flags wr (w.heap.size + 1) 64 (colSeen n xs k)) := hfc
      clear hfr hfc
      obtain ⟨x, hxk⟩ : ∃ x : Nat, ix xs k = x := Int.eq_ofNat_of_zero_le hxb.1
      have Hs1 : Hid (∀ j, rowSeen n xs (k + 1) j = (rowSeen n xs k j || dv k n * 8 + x == j)) := fun j => by rw [rowSeen, hxk]; rfl
      have Hs2 : Hid (∀ j, colSeen n xs (k + 1) j = (colSeen n xs k j || md k n * 8 + x == j)) := fun j => by rw [colSeen, hxk]; rfl
      rw [hxk] at hxb hcell hseen
      simp only [Int.toNat_natCast] at hseen
      have Hseen := Lib.hid hseen
      clear hseen hxk
      have hdv : dv k n < 8 := by unfold dv; exact (Nat.div_lt_iff_lt_mul (by omega)).2 (by rw [Nat.mul_comm]; omega)
      have hmd : md k n < 8 := by unfold md; have := Nat.mod_lt k (show 0 < n by omega); omega
      have hq1 := wrap_dv (i := k) (n := n) (by omega)
      have hq2 : ((k : Int) % (n : Int)) = ((md k n : Nat) : Int) := by unfold md; omega
      have r1 : wr.cell? ⟨w.heap.size, dv k n * 8 + x, none⟩ = _ := Arr.cell Hr.out (by omega)
      have r2 : wr.frozen? ⟨w.heap.size, dv k n * 8 + x, none⟩ = _ := Arr.free Hr.out (by omega)
      have c1 : wr.cell? ⟨w.heap.size + 1, md k n * 8 + x, none⟩ = _ := Arr.cell Hc.out (by omega)
      have c2 : wr.frozen? ⟨w.heap.size + 1, md k n * 8 + x, none⟩ = _ := Arr.free Hc.out (by omega)
      cases e1 : rowSeen n xs k (dv k n * 8 + x)
      · cases e2 : colSeen n xs k (md k n * 8 + x)
        · rw [e1] at r1; rw [e2] at c1
          have Hno : Hid (clashRow n xs k k = false) := by rw [← Hseen.out, e1, e2]; rfl
          clear e1 e2
          go_wp2
          go_region
          all_goals
            clear hq1 hq2 r1 r2 c1 c2
            go_wp2
            go_roundw
            case rel =>
              refine ⟨k + 1, by omega, by go_num, by rw [clashTo, Hn.out, Hno.out]; rfl, ?_, ?_, ?_⟩
              · exact ((hb.setCell (Nat.le_refl _) _).setCell (Nat.le_succ _) _).drew
              · exact (Arr.setOther (Arr.congr (Flags.set Hr.out (show dv k n * 8 + x < 64 by omega)) (fun j _ => by rw [Hs1.out j])) (by simp) _).drew
              · exact (Arr.congr (Flags.set (Arr.setOther Hc.out (by simp) _) (show md k n * 8 + x < 64 by omega)) (fun j _ => by rw [Hs2.out j])).drew
            case measure => simp [intOf]; omega
        · rw [e1] at r1; rw [e2] at c1
          have Hno : Hid (clashRow n xs k k = true) := by rw [← Hseen.out, e1, e2]; rfl
          clear e1 e2
          go_wp2
          go_ret
          exact ⟨ret_bool (once_hit2 hlt Hno.out).symm, hb⟩
      · rw [e1] at r1
        have Hno : Hid (clashRow n xs k k = true) := by rw [← Hseen.out, e1]; rfl
        clear e1 c1
        go_wp2
        go_ret
        exact ⟨ret_bool (once_hit2 hlt Hno.out).symm, hb⟩
    · obtain rfl : k = xs.length := by omega
      go_wp2
      go_ret
      exact ⟨ret_bool (by rw [onceB, Hn.out]; rfl), hb⟩

theorem twice_int (v : Value) (xs : List Int) (n : Int) (w : World) (h : IntsAt w v xs) (hn : 1 ≤ n) (hn' : n ≤ 8) (hx : ∀ k, k < xs.length → 0 ≤ ix xs k ∧ ix xs k < 8) (hl : (xs.length : Int) ≤ n * 8) :
    Calls Tryd.prog 59 #[.int .i64 n, v] w fun e w' => e = .returned (.bool (!onceB n.toNat xs)) ∧ Below w.heap.size w w' := by
  obtain ⟨m, rfl⟩ := Int.eq_ofNat_of_zero_le (show 0 ≤ n by omega)
  exact twice_any v xs m w h (by omega) (by omega) hx (by omega)

/-- side -/
def sideB (n : Int) : Bool := decide (1 ≤ n ∧ n ≤ 8)
theorem side_any (n : Int) (w : World) : Calls Tryd.prog 25 #[.int .i64 n] w fun e w' => e = .returned (.bool (sideB n)) ∧ w = w' := by
  by_cases h1 : 1 ≤ n
  · have e1 : decide (1 ≤ n) = true := by simpa using h1
    cases e2 : decide (n ≤ 8)
    all_goals
      have hs : sideB n = decide (n ≤ 8) := by simp [sideB, h1]
      rw [e2] at hs
      have Hs := Lib.hid hs; clear hs
      go_enter Tryd.func25, Tryd.ntmps25
      go_wp2
      go_ret
      exact ⟨ret_bool (by rw [Hs.out]), rfl⟩
  · have hs : sideB n = false := by simp [sideB, h1]
    have Hs := Lib.hid hs; clear hs
    have e1 : decide (1 ≤ n) = false := by simpa using h1
    go_enter Tryd.func25, Tryd.ntmps25
    go_wp2
    go_ret
    exact ⟨ret_bool (by rw [Hs.out]), rfl⟩

/-- The test of one number, as latin.Check's closure makes it. -/
def outB (n x : Int) : Bool := decide (x < 0 ∨ n ≤ x)
theorem outB_neg {n x : Int} (h : x < 0) : outB n x = true := by simp [outB, h]
theorem outB_pos {n x : Int} (h : ¬ x < 0) : outB n x = decide (n ≤ x) := by simp [outB, h]
theorem check1_any (x n : Int) (b : Nat) (w : World) (hc : w.cell? ⟨b, 0, none⟩ = some (.int .i64 n)) :
    Calls Tryd.prog 58 #[.int .i64 x, .pointer (some ⟨b, 0, none⟩)] w fun e w' => e = .returned (.bool (outB n x)) ∧ w = w' := by
  by_cases h1 : x < 0
  · have ed : decide (x < 0) = true := by simpa using h1
    go_enter Tryd.func58, Tryd.ntmps58
    go_wp2
    go_ret
    exact ⟨ret_bool (outB_neg h1).symm, rfl⟩
  · have Ho := Lib.hid (outB_pos (n := n) h1)
    have ed : decide (x < 0) = false := by simpa using h1
    cases e2 : decide (n ≤ x)
    all_goals
      rw [e2] at Ho
      go_enter Tryd.func58, Tryd.ntmps58
      go_wp2
      go_ret
      exact ⟨ret_bool Ho.out.symm, rfl⟩

end Go.Proofs.YtdbfpdhcaiiiaaaDoor
