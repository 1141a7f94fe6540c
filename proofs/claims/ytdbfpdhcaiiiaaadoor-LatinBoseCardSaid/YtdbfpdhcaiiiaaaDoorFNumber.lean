/-
  Contract: the method number of a field's room. No condition.
-/
import Derived.Test.YtdbfpdhcaiiiaaaDoorFOpen
namespace Go.Proofs.YtdbfpdhcaiiiaaaDoor
open Go.RowKit

theorem num_vals {p n x : Nat} (hp : p ≤ 64) (hn : n ≤ 64) (hx : x ≤ 64) :
    IntKind.i64.wrap ((n : Int) * (p : Int)) = ((n * p : Nat) : Int) ∧ IntKind.i64.wrap (((n * p : Nat) : Int) + (x : Int)) = ((n * p + x : Nat) : Int) := by
  have h1 : n * p ≤ 64 * 64 := Nat.mul_le_mul hn hp
  refine ⟨?_, ?_⟩
  · rw [← Int.natCast_mul]; exact IntWalk.i64_in _ (by omega)
  · rw [← Int.natCast_add]; exact IntWalk.i64_in _ (by omega)

set_option maxRecDepth 100000 in
set_option maxHeartbeats 2000000 in
theorem number_any (p d q : Nat) (v : Value) (f : Nat → Nat) (w : World) (hp : 2 ≤ p) (hp2 : p ≤ 64) (hd1 : 1 ≤ d) (hd : d ≤ 6) (hq : p ^ d ≤ 64) (hf : ∀ j, f j < p) (hv : ∃ a l c, v = .slice a l c) :
    Calls Tryd.prog 70 #[roomV p d v q, fV f] w fun e w' => e = .returned (.int .i64 (numF p d f : Nat)) ∧ Below w.heap.size w w' := by
  obtain ⟨a, l, c, rfl⟩ := hv
  obtain ⟨X, hX⟩ : ∃ X, X = (rowOf 7 fun j => ((f j : Nat) : Int)).toArray := ⟨_, rfl⟩
  have hA := poly_box (w := w.alloc (.cells #[.int .i64 (p : Int), .int .i64 (d : Int), .slice a l c, .int .i64 (q : Int)] 72)) (t := 89) hX
  have hF := Arr.alloc (four_new w (.int .i64 (p : Int)) (.int .i64 (d : Int)) (.slice a l c) (.int .i64 (q : Int)) 72) (.cells X 89)
  rw [World.size_alloc] at hA
  have HA := Lib.hid hA; have HFour := Lib.hid hF
  have HB := Lib.hid (belowTrans (below_box w (.cells #[.int .i64 (p : Int), .int .i64 (d : Int), .slice a l c, .int .i64 (q : Int)] 72)) (below_box _ (.cells X 89)))
  have HFl := Lib.hid hf
  have HS : Hid (∀ s, s ≤ d → numS p d f s ≤ 64) := fun s hs => by
    have h1 := numS_lt (fun j _ => hf j) s hs
    have h2 : p ^ s ≤ p ^ d := Nat.pow_le_pow_right (by omega) hs
    omega
  clear hf hA hF hq
  show Calls Tryd.prog 70 #[.agg #[.int .i64 (p : Int), .int .i64 (d : Int), .slice a l c, .int .i64 (q : Int)], .agg (rowOf 7 fun j => ((f j : Nat) : Int)).toArray] w fun e w' => e = .returned (.int .i64 (numF p d f : Nat)) ∧ Below w.heap.size w w'
  rw [← hX]
  clear hX
  have hd1' : IntKind.i64.wrap ((d : Int) - 1) = (d : Int) - 1 := IntWalk.i64_in _ (by omega)
  go_enter Tryd.func70, Tryd.ntmps70
  go_wp2_with fail
  clear hd1'
  obtain ⟨W, hW⟩ : ∃ W, W = (w.alloc (.cells #[.int .i64 (p : Int), .int .i64 (d : Int), .slice a l c, .int .i64 (q : Int)] 72)).alloc (.cells X 89) := ⟨_, rfl⟩
  rw [← hW] at HA HFour HB
  have f0 : W.cell? ⟨w.heap.size, 0, none⟩ = some (.int .i64 (p : Int)) := HFour.out.cell (show 0 < 4 by omega)
  have f1 : W.cell? ⟨w.heap.size, 1, none⟩ = some (.int .i64 (d : Int)) := HFour.out.cell (show 1 < 4 by omega)
  rw [← hW]
  clear hW
  go_loopw [5, 6] (fun s i wr => ∃ t n nd : Nat, t ≤ d ∧ i = .int .i64 ((d : Int) - 1 - (t : Int)) ∧ s = .int .i64 n ∧ n = numS p d f t ∧ wr = W.drewN nd) (fun _ i _ => (intOf i + 1).toNat)
  case atStart => exact ⟨0, 0, 0, by omega, by simp, rfl, rfl, rfl⟩
  case round =>
    obtain ⟨t, n, nd, ht, rfl, rfl, hn, rfl⟩ := hrel
    have HN := Lib.hid hn
    have hn64 := HS.out t ht
    rw [← hn] at hn64
    clear hn
    by_cases hlt : t < d
    · obtain ⟨j, hj⟩ : ∃ j, j = d - 1 - t := ⟨_, rfl⟩
      have hj7 : j < 7 := by omega
      have hji : (j : Int) < 7 := by omega
      have hjj : (d : Int) - 1 - (t : Int) = (j : Int) := by omega
      have c1 := (HA.out.old hj7).1
      have hfj := HFl.out j
      obtain ⟨v1, v2⟩ := num_vals (p := p) (n := n) (x := f j) hp2 hn64 (by omega)
      have HN2 : Hid (n * p + f j = numS p d f (t + 1)) := by show _ = _; rw [numS, ← HN.out, hj]
      have HJ : Hid ((j : Int) - 1 = (d : Int) - 1 - ((t + 1 : Nat) : Int)) := by show _ = _; omega
      have hb := HS.out (t + 1) (by omega)
      rw [← HN2.out] at hb
      clear hj
      rw [hjj]
      clear hjj
      generalize f j = x at *
      generalize n * p + x = r at *
      generalize n * p = m2 at *
      go_wp2_with fail
      go_quiet (fail)
      clear c1 v1 v2
      go_wp2_with fail
      go_roundw
      case rel => exact ⟨t + 1, r, _, by omega, congrArg (Value.int .i64) HJ.out, rfl, HN2.out, rfl⟩
      case measure => first | (simp [intOf]; done) | (simp [intOf]; omega)
    · obtain rfl : t = d := by omega
      have hjj : (t : Int) - 1 - (t : Int) = -1 := by omega
      rw [hjj]
      clear hjj
      go_wp2_with fail
      go_ret
      exact ⟨ret_int (by rw [HN.out]; rfl), below_drewN HB.out _⟩
end Go.Proofs.YtdbfpdhcaiiiaaaDoor
