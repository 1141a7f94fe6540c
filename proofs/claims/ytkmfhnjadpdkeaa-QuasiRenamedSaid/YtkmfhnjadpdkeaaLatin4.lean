/-
  Contracts: are two squares orthogonal (the reference's and the program's). No condition.
-/
import Derived.Test.YtkmfhnjadpdkeaaLatin3
namespace Go.Proofs.Ytkmfhnjadpdkeaa
open Go.RowKit

set_option maxHeartbeats 1000000 in
theorem orthOf_any (s t : Int) (v u : Value) (xs ys : List Int) (w : World) (h : IntsAt w v xs) (g : IntsAt w u ys) (hl : xs.length ≤ ys.length) :
    Calls Try.prog 15 #[.agg #[.int .i64 s, v], .agg #[.int .i64 t, u]] w fun e w' => e = .returned (.bool (orthB xs ys)) ∧ Below w.heap.size w w' := by
  obtain ⟨a, c, rfl, h1, h2, _, h3⟩ := h
  obtain ⟨a', c', rfl, g1, g2, _, g3⟩ := g
  go_enter Try.func15, Try.ntmps15
  go_wp2
  go_loopw [5] (fun i wr => ∃ k nd: Nat, k ≤ xs.length ∧ i = .int .i64 k ∧ pairTo xs ys k = false ∧ wr = ((w.alloc (.cells #[.int .i64 s, .slice a xs.length c] 24)).alloc (.cells #[.int .i64 t, .slice a' ys.length c'] 24)).drewN nd) (fun i _ => xs.length - (intOf i).toNat)
  case atStart => exact ⟨0, 0, by omega, rfl, by rfl, rfl⟩
  case round =>
    obtain ⟨i, nd, hi, rfl, hcl, rfl⟩ := hrel
    have Hcl := Lib.hid hcl; clear hcl
    by_cases hlt : i < xs.length
    · obtain ⟨b, o, rfl, hb, hc⟩ := h3 i hlt
      obtain ⟨b', o', rfl, hb', hc'⟩ := g3 i (by omega)
      have hci := hc i hlt
      have hci' := hc' i (by omega)
      go_wp2
      go_loopw [6] (fun j wr => ∃ k nd: Nat, k ≤ i ∧ j = .int .i64 k ∧ pairRow xs ys i k = false ∧ wr = ((w.alloc (.cells #[.int .i64 s, .slice (some ⟨b, o, none⟩) xs.length c] 24)).alloc (.cells #[.int .i64 t, .slice (some ⟨b', o', none⟩) ys.length c'] 24)).drewN nd) (fun j _ => i - (intOf j).toNat)
      case atStart => exact ⟨0, nd, by omega, rfl, by rfl, rfl⟩
      case round =>
        obtain ⟨k, nd, hk, rfl, hcl, rfl⟩ := hrel
        have Hck := Lib.hid hcl; clear hcl
        by_cases hltk : k < i
        · have hck := hc k (by omega)
          have hck' := hc' k (by omega)
          have hk2 : k < xs.length := by omega
          have hk3 : k < ys.length := by omega
          clear hc h3 hc' g3
          rcases pair_way xs ys i k with ⟨e1, ec⟩ | ⟨e1, e2, ec⟩ | ⟨e1, e2, ec⟩
          all_goals
            have Hec := Lib.hid ec; clear ec
            go_wp2
            go_quiet (fail)
            go_wp2
          · go_roundw
            case rel => exact ⟨k + 1, _, by omega, by go_num, by rw [pairRow, Hck.out, Hec.out]; rfl, rfl⟩
            case measure => simp [intOf]; omega
          · go_ret
            exact ⟨ret_bool (orth_hit hltk hlt Hec.out).symm, below_drewN (below_drewN (((Below.refl _ _).alloc (Nat.le_refl _) _).alloc (by simp) _) _) _⟩
          · go_roundw
            case rel => exact ⟨k + 1, _, by omega, by go_num, by rw [pairRow, Hck.out, Hec.out]; rfl, rfl⟩
            case measure => simp [intOf]; omega
        · obtain rfl : k = i := by omega
          go_wp2
          go_roundw
          case rel => exact ⟨k + 1, _, by omega, by go_num, by rw [pairTo, Hcl.out, Hck.out]; rfl, rfl⟩
          case measure => simp [intOf]; omega
    · obtain rfl : i = xs.length := by omega
      go_wp2
      go_ret
      exact ⟨ret_bool (by rw [orthB, Hcl.out]; rfl), below_drewN (((Below.refl _ _).alloc (Nat.le_refl _) _).alloc (by simp) _) _⟩

end Go.Proofs.Ytkmfhnjadpdkeaa
