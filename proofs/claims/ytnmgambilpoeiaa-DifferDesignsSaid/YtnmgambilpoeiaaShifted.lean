/-
  Contract: the reference's Shifted. No condition.
-/
import Derived.Test.YtnmgambilpoeiaaSorted
import Derived.Test.YtnmgambilpoeiaaDiffMove
namespace Go.Proofs.Ytnmgambilpoeiaa
open Go.RowKit

/-- The numbers moved, not yet sorted. -/
def mvTo (v g s : Nat) (xs : List Int) (k : Nat) : List Int := (xs.take k).map fun x => (x * g + s) % (v : Int)
theorem mvTo_succ {v g s : Nat} {xs : List Int} {k : Nat} (h : k < xs.length) : mvTo v g s xs (k + 1) = mvTo v g s xs k ++ [(ix xs k * g + s) % (v : Int)] := by
  unfold mvTo; rw [take_succ_ix h, List.map_append]; rfl
theorem mvTo_len {v g s : Nat} {xs : List Int} {k : Nat} (h : k ≤ xs.length) : (mvTo v g s xs k).length = k := by unfold mvTo; rw [List.length_map, List.length_take]; omega
theorem mvTo_all (v g s : Nat) (xs : List Int) : sortI (mvTo v g s xs xs.length) = movL v g s xs := by unfold mvTo movL; rw [List.take_length]
theorem mv_val {n t s x : Nat} (hx : x < 60) (ht : t ≤ 200) :
    Value.int .i64 (wrap64 ((x : Int) * (t : Int))) = Value.int .i64 ((x * t : Nat) : Int) ∧ x * t ≤ 12000 ∧ (((x * t : Nat) : Int) + s) % (n : Int) = (((x : Int) * t + s) % (n : Int)) := by
  have h : x * t ≤ 60 * 200 := Nat.mul_le_mul (by omega) ht
  refine ⟨?_, by omega, by rw [Int.natCast_mul]⟩
  rw [← Int.natCast_mul, IntWalk.wrap64_in _ (by omega)]

set_option maxRecDepth 100000 in
set_option maxHeartbeats 2000000 in
theorem shifted_any (n t s : Nat) (v : Value) (xs : List Int) (w : World) (h : IntsAt w v xs) (hS : IsSet n xs) (ht : t ≤ 200) (hs : s ≤ 200) :
    Calls Try.prog 12 #[.int .i64 (n : Nat), v, .int .i64 (t : Nat), .int .i64 (s : Nat)] w fun e w' => ∃ u, e = .returned u ∧ Own w' w.heap.size 3 u (movL n t s xs) ∧ Below w.heap.size w w' := by
  have HS := Lib.hid hS
  have hn1 := hS.lo; have hn2 := hS.hi
  have hl : (xs.length : Int) ≤ n := inc_len hS.rng hS.inc (by omega)
  obtain ⟨a, c, rfl, h1, h2, _, h3⟩ := h
  have HX := Lib.hid h3; clear h3 hS
  go_enter Try.func12, Try.ntmps12
  go_wp2_with fail
  go_loopw [10, 9] (fun q l wr => ∃ (i : Nat) (z : Value), i ≤ xs.length ∧ q = .int .i64 i ∧ l = z ∧ Own wr w.heap.size 3 z (mvTo n t s xs i) ∧ Below w.heap.size w wr) (fun q _ _ => xs.length - (intOf q).toNat)
  case atStart => exact ⟨0, _, by omega, rfl, rfl, own_nil _ _ _, Below.refl _ _⟩
  case round =>
    obtain ⟨i, z, hi, rfl, hz, hO, hB⟩ := hrel
    subst hz
    have HO := Lib.hid hO; have HB := Lib.hid hB
    have hsz := hB.size
    have hml := mvTo_len (v := n) (g := t) (s := s) hi
    clear hO hB
    by_cases hlt : i < xs.length
    · obtain ⟨b, o, rfl, hb, hc⟩ := HX.out i hlt
      have hcell := hc i hlt
      rw [← (bcell HB.out).1 _ _ hb] at hcell
      clear hc
      have hr := HS.out.rng i hlt
      obtain ⟨x, hx⟩ := Int.eq_ofNat_of_zero_le hr.1
      have HM : Hid (mvTo n t s xs (i + 1) = mvTo n t s xs i ++ [((x : Int) * t + s) % (n : Int)]) := by show _ = _; rw [mvTo_succ hlt, hx]
      rw [hx] at hcell hr
      obtain ⟨hv1, hv2, hv3⟩ := mv_val (n := n) (t := t) (s := s) (x := x) (by omega) ht
      rw [← hv3] at HM
      have hm0 : ¬ n = 0 := by omega
      clear hx hv3
      obtain ⟨P, hP⟩ : ∃ P, P = x * t := ⟨_, rfl⟩
      rw [← hP] at hv1 hv2 HM
      have hw : IntKind.i64.wrap ((((P : Nat) : Int) + s) % (n : Int)) = (((P : Nat) : Int) + s) % (n : Int) := by
        have q1 : 0 ≤ (((P : Nat) : Int) + s) % (n : Int) := Int.emod_nonneg _ (by omega)
        have q2 : (((P : Nat) : Int) + s) % (n : Int) < n := Int.emod_lt_of_pos _ (by omega)
        exact IntWalk.i64_in _ (by omega)
      have HWr := Lib.hid hw
      clear hP hw
      go_wp2_with (at_builtin; refine app_own rfl _ _ rfl rfl (HO.out.alloc _) _ _ rfl (by rw [World.cell?_alloc_new]; rfl) (by omega) (by rw [World.size_alloc]; omega) ?_; intro v' w1 hown1 hgrow)
      have HO1 := Lib.hid hown1
      have HB1 := Lib.hid ((HB.out.alloc hsz _).grown hgrow (by rw [World.size_alloc]; omega) (fun k hk => (HO.out.block k hk).1))
      clear hown1 hgrow
      go_roundw
      case rel => exact ⟨i + 1, _, by omega, by go_num, rfl, by rw [HM.out]; exact HO1.out, HB1.out⟩
      case measure => simp [intOf]; omega
    · obtain rfl : i = xs.length := by omega
      have HSo := Lib.hid (sorted_any _ _ _ (HO.out.intsAt (by omega)) (by omega))
      rw [mvTo_all] at HSo
      obtain ⟨za, zl, zc, rfl⟩ := HO.out.shape
      go_wp2_with fail
      refine (HSo.out).mono ?_
      rintro e w2 ⟨u, rfl, hown, hb⟩
      have HO2 := Lib.hid (hown.base hsz)
      have HB2 := Lib.hid (belowTrans HB.out hb)
      obtain ⟨ua, ul, uc, rfl⟩ := hown.shape
      clear hown hb
      go_wp2_with fail
      go_ret
      exact ⟨_, rfl, HO2.out, HB2.out⟩
end Go.Proofs.Ytnmgambilpoeiaa
