/-
  Contract: the reference's Lies (is a number in a list?). No condition.
-/
import Derived.Test.YtkmcmahpfhlkhaaSlice
namespace Go.Proofs.Ytkmcmahpfhlkhaa
open Go.RowKit

set_option maxHeartbeats 400000 in
theorem lies_any (x : Int) (v : Value) (xs : List Int) (w : World) (h : IntsAt w v xs) :
    Calls Try.prog 45 #[v, .int .i64 x] w fun e w' => e = .returned (.bool (mem xs x)) ∧ w = w' := by
  obtain ⟨a, c, rfl, h1, h2, _, h3⟩ := h
  have hm := Lib.hid (any_mem x xs)
  go_enter Try.func45, Try.ntmps45
  go_wp2
  go_loop [5] (fun i => ∃ k : Nat, k ≤ xs.length ∧ i = .int .i64 k ∧ anyB (fun y => x == y) (xs.take k) = false) (fun i => xs.length - (intOf i).toNat)
  case atStart => exact ⟨0, by omega, rfl, by simp [anyB]⟩
  case round =>
    obtain ⟨k, hk, rfl, hn⟩ := hrel
    have Hn := Lib.hid hn; clear hn
    by_cases hlt : k < xs.length
    · obtain ⟨b, o, rfl, hb, hc⟩ := h3 k hlt
      have hcell := hc k hlt
      clear hc h3
      cases ep : (ix xs k == x)
      · have Hep : Hid ((x == ix xs k) = false) := by show _ = _; rw [BEq.comm]; exact ep
        go_wp2
        go_round
        case rel => exact ⟨k + 1, by omega, by go_num, by rw [any_take hlt, Hn.out, Hep.out]; rfl⟩
        case measure => simp [intOf]; omega
      · have Hep : Hid ((x == ix xs k) = true) := by show _ = _; rw [BEq.comm]; exact ep
        go_wp2
        go_ret
        exact ⟨ret_bool (by rw [← hm.out, any_of_hit hlt Hep.out]), rfl⟩
    · obtain rfl : k = xs.length := by omega
      go_wp2
      go_ret
      exact ⟨ret_bool (by rw [← hm.out]; simpa using Hn.out.symm), rfl⟩
end Go.Proofs.Ytkmcmahpfhlkhaa
