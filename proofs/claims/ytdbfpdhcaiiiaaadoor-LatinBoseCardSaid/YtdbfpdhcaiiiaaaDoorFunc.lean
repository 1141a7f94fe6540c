/-
  Contracts: the library's slices.IndexFunc, ContainsFunc over ints, at whatever predicate is quiet. No condition.
-/
import Derived.Test.YtdbfpdhcaiiiaaaDoorRows
import Derived.Test.YtdbfpdhcaiiiaaaDoorPure
namespace Go.Proofs.YtdbfpdhcaiiiaaaDoor
open Go.RowKit

set_option maxHeartbeats 400000 in
theorem indexFunc_any (g : FuncId) (hg : ∀ (args : Array Value) (w : World), (callFunc g args).run Tryd.prog w = .ok (.enter g args) w) (q : Value) (p : Int → Bool) (v : Value) (xs : List Int) (w : World) (h : IntsAt w v xs)
    (hp : ∀ x, Calls Tryd.prog g #[.int .i64 x, q] w fun e w' => e = .returned (.bool (p x)) ∧ w = w') :
    Calls Tryd.prog 71 #[v, .func (.func g) #[] #[q]] w fun e w' => e = .returned (.int .i64 (findI p xs)) ∧ w = w' := by
  have Hp := Lib.hid hp; clear hp
  obtain ⟨a, c, rfl, h1, h2, _, h3⟩ := h
  go_enter Tryd.func71, Tryd.ntmps71
  go_wp2
  go_loop [8] (fun i => ∃ k : Nat, k ≤ xs.length ∧ i = .int .i64 k ∧ anyB p (xs.take k) = false) (fun i => xs.length - (intOf i).toNat)
  case atStart => exact ⟨0, by omega, rfl, by simp [anyB]⟩
  case round =>
    obtain ⟨k, hk, rfl, hn⟩ := hrel
    have Hn := Lib.hid hn; clear hn
    by_cases hlt : k < xs.length
    · obtain ⟨b, o, rfl, hb, hc⟩ := h3 k hlt
      have hcell := hc k hlt
      clear hc h3
      cases ep : p (ix xs k)
      all_goals
        have Hep := Lib.hid ep; clear ep
        go_wp2_with (refine (Hp.out _).mono ?_; rw [Hep.out]; rintro e w' ⟨rfl, rfl⟩)
      · go_round
        case rel => exact ⟨k + 1, by omega, by go_num, by rw [any_take hlt, Hn.out, Hep.out]; rfl⟩
        case measure => simp [intOf]; omega
      · go_ret
        exact ⟨ret_int (findI_hit hlt Hn.out Hep.out).symm, rfl⟩
    · obtain rfl : k = xs.length := by omega
      go_wp2
      go_ret
      exact ⟨ret_int (findI_none (by simpa using Hn.out)).symm, rfl⟩

theorem containsFunc_any (g : FuncId) (hg : ∀ (args : Array Value) (w : World), (callFunc g args).run Tryd.prog w = .ok (.enter g args) w) (q : Value) (p : Int → Bool) (v : Value) (xs : List Int) (w : World) (h : IntsAt w v xs)
    (hp : ∀ x, Calls Tryd.prog g #[.int .i64 x, q] w fun e w' => e = .returned (.bool (p x)) ∧ w = w') :
    Calls Tryd.prog 57 #[v, .func (.func g) #[] #[q]] w fun e w' => e = .returned (.bool (anyB p xs)) ∧ w = w' := by
  have Hc := Lib.hid (indexFunc_any g hg q p v xs w h hp)
  clear hp h hg
  have e := findI_pos p xs
  have He := Lib.hid e; clear e
  go_enter Tryd.func57, Tryd.ntmps57
  go_wp2_with (go_at_call 71; refine (Hc.out).mono ?_; rintro e w' ⟨rfl, rfl⟩)
  go_ret
  exact ⟨ret_bool He.out, rfl⟩

theorem enters_latinCheck (args : Array Value) (w : World) : (callFunc 58 args).run Tryd.prog w = .ok (.enter 58 args) w := by kernel_rfl
end Go.Proofs.YtdbfpdhcaiiiaaaDoor
