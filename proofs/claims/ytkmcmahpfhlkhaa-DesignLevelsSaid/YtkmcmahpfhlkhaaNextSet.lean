/-
  Contracts: the reference's Still, all, NextSet. No condition.
-/
import Derived.Test.YtkmcmahpfhlkhaaChain
import Derived.Test.YtkmcmahpfhlkhaaLies
namespace Go.Proofs.Ytkmcmahpfhlkhaa
open Go.RowKit

/-- Element j of a list of numbers. -/
def nx (P : List Nat) (j : Nat) : Nat := P.getD j 0
theorem nx_cons (x : Nat) (P : List Nat) (j : Nat) : nx (x :: P) (j + 1) = nx P j := by simp [nx]
theorem nx_zero (x : Nat) (P : List Nat) : nx (x :: P) 0 = x := rfl
theorem nextL_none {n : Nat} : ∀ {P : List Nat}, (∀ i, i < P.length → ¬ nx P i + (P.length - i) < n) → nextL n P = none
  | [], _ => rfl
  | x :: P, h => by
    have h1 : nextL n P = none := nextL_none fun i hi => by
      have := h (i + 1) (by simp; omega)
      rw [nx_cons, List.length_cons] at this
      rwa [show P.length + 1 - (i + 1) = P.length - i by omega] at this
    have h2 := h 0 (by simp)
    rw [nx_zero, List.length_cons] at h2
    rw [nextL, h1]
    show (if _ then _ else _) = _
    rw [if_neg (by omega)]
theorem nextL_hit {n : Nat} : ∀ {P : List Nat} {i : Nat}, i < P.length → nx P i + (P.length - i) < n → (∀ j, i < j → j < P.length → ¬ nx P j + (P.length - j) < n) → nextL n P = some (P.take i ++ List.range' (nx P i + 1) (P.length - i))
  | [], i, h, _, _ => by simp at h
  | x :: P, 0, _, h1, h2 => by
    have h3 : nextL n P = none := nextL_none fun i hi => by
      have := h2 (i + 1) (by omega) (by simp; omega)
      rw [nx_cons, List.length_cons] at this
      rwa [show P.length + 1 - (i + 1) = P.length - i by omega] at this
    rw [nx_zero, List.length_cons] at h1
    rw [nextL, h3]
    show (if _ then _ else _) = _
    rw [if_pos (by omega)]
    rfl
  | x :: P, i + 1, h, h1, h2 => by
    simp only [List.length_cons] at h
    rw [nx_cons, List.length_cons, show P.length + 1 - (i + 1) = P.length - i by omega] at h1
    have ih := nextL_hit (P := P) (i := i) (by omega) h1 fun j hj hj2 => by
      have := h2 (j + 1) (by omega) (by simp; omega)
      rwa [nx_cons, List.length_cons, show P.length + 1 - (j + 1) = P.length - j by omega] at this
    rw [nextL, ih]
    show some (x :: _) = _
    rw [nx_cons, List.length_cons, show P.length + 1 - (i + 1) = P.length - i by omega]
    rfl
theorem nx_next {P : List Nat} {i a : Nat} (hi : i < P.length) (j : Nat) (hj : j < P.length) : nx (P.take i ++ List.range' a (P.length - i)) j = if j < i then nx P j else a + (j - i) := by
  unfold nx
  rw [List.getD_eq_getElem?_getD, List.getD_eq_getElem?_getD]
  by_cases e : j < i
  · rw [if_pos e, List.getElem?_append_left (by simp; omega), List.getElem?_take_of_lt e]
  · rw [if_neg e, List.getElem?_append_right (by simp; omega), List.length_take, Nat.min_eq_left (by omega), List.getElem?_range' (by omega)]
    simp

/-- A set of points that a call holds in its own array. -/
def SetAt (w : World) (v : Value) (P : List Nat) : Prop :=
  (P = [] ∧ v = .slice none 0 0) ∨ ∃ g c, v = .slice (some ⟨g, 0, none⟩) P.length c ∧ P.length ≤ c ∧ c ≤ 9223372036854775807 ∧ Nums w g P.length (fun j => (nx P j : Nat))
theorem SetAt.ints {w : World} {v : Value} {P : List Nat} (h : SetAt w v P) : IntsAt w v (P.map (fun x : Nat => (x : Int))) := by
  rcases h with ⟨rfl, rfl⟩ | ⟨g, c, rfl, h1, h2, h3⟩
  · exact intsAt_nil w
  · refine ⟨some ⟨g, 0, none⟩, c, by rw [List.length_map], by rw [List.length_map]; exact h1, h2, (fun h => by cases h), fun i hi => ⟨g, 0, rfl, h3.lt, fun j hj => ?_⟩⟩
    rw [List.length_map] at hj
    rw [Nat.zero_add, h3.cell hj]
    unfold ix nx
    simp [hj]
theorem ints_set {w : World} {base : Nat} {v : Value} {P : List Nat} (h : Own w base 3 v (P.map (fun x : Nat => (x : Int)))) : SetAt w v P := by
  unfold Own at h
  rw [List.length_map] at h
  rcases h.2 with ⟨rfl, e⟩ | ⟨g, cap, cur, rfl, hg, hh, hc, hm, hs, ht⟩
  · exact .inl ⟨List.eq_nil_of_length_eq_zero e, rfl⟩
  · unfold maxLen at hm
    refine .inr ⟨g, cap, rfl, hc, by omega, (Array.getElem?_eq_some_iff.1 hh).1, fun j hj => ⟨?_, by simp [World.frozen?, hh]⟩⟩
    rw [cell_of_row w g j cur _ (0, 0) hh]
    have e : (cur.toList.take (P.length * 1))[j]? = (cellsOf (P.map (fun x : Nat => (x : Int))))[j]? := by rw [ht]
    rw [List.getElem?_take_of_lt (by omega)] at e
    rw [← Array.getElem?_toList, e]
    simp [cellsOf, nx, hj]

set_option maxHeartbeats 400000 in
theorem all_any (v u : Value) (xs ys : List Int) (w : World) (h : IntsAt w v xs) (g : IntsAt w u ys) :
    Calls Try.prog 40 #[v, u] w fun e w' => e = .returned (.bool (!anyB (fun y => !mem xs y) ys)) ∧ w = w' := by
  have HL := Lib.hid h
  obtain ⟨va, vc, rfl, _⟩ := h
  obtain ⟨b, d, rfl, g1, g2, _, g3⟩ := g
  go_enter Try.func40, Try.ntmps40
  go_wp2
  go_loop [5] (fun i => ∃ k : Nat, k ≤ ys.length ∧ i = .int .i64 k ∧ anyB (fun y => !mem xs y) (ys.take k) = false) (fun i => ys.length - (intOf i).toNat)
  case atStart => exact ⟨0, by omega, rfl, by simp [anyB]⟩
  case round =>
    obtain ⟨k, hk, rfl, hn⟩ := hrel
    have Hn := Lib.hid hn; clear hn
    by_cases hlt : k < ys.length
    · obtain ⟨b, o, rfl, hb, hc⟩ := g3 k hlt
      have hcell := hc k hlt
      clear hc g3
      have HC := Lib.hid (lies_any (ix ys k) _ xs w HL.out)
      cases ep : mem xs (ix ys k)
      · have Hep : Hid ((fun y => !mem xs y) (ix ys k) = true) := by show _ = _; simp [ep]
        rw [ep] at HC
        clear ep
        go_wp2_with (refine (HC.out).mono ?_; rintro e w' ⟨rfl, rfl⟩)
        go_ret
        exact ⟨ret_bool (by rw [any_of_hit hlt Hep.out]; rfl), rfl⟩
      · have Hep : Hid ((fun y => !mem xs y) (ix ys k) = false) := by show _ = _; simp [ep]
        rw [ep] at HC
        clear ep
        go_wp2_with (refine (HC.out).mono ?_; rintro e w' ⟨rfl, rfl⟩)
        go_round
        case rel => exact ⟨k + 1, by omega, by go_num, by rw [any_take hlt, Hn.out, Hep.out]; rfl⟩
        case measure => simp [intOf]; omega
    · obtain rfl : k = ys.length := by omega
      go_wp2
      go_ret
      exact ⟨ret_bool (by rw [List.take_length] at Hn; rw [Hn.out]; rfl), rfl⟩

/-- The points from 0 on. -/
def stillL (t : Nat) : List Nat := List.range t
theorem pickL_range : ∀ t, pickL (fun _ => true) t = (List.range t).map (fun x : Nat => (x : Int))
  | 0 => rfl
  | t + 1 => by rw [pickL_yes rfl, pickL_range t, List.range_succ, List.map_append]; rfl
set_option maxRecDepth 100000 in
set_option maxHeartbeats 400000 in
theorem still_any (t : Nat) (ht : t ≤ 100) (w : World) :
    Calls Try.prog 39 #[.int .i64 (t : Nat)] w fun e w' => ∃ v, e = .returned v ∧ Own w' w.heap.size 3 v (pickL (fun _ => true) t) ∧ Below w.heap.size w w' := by
  go_enter Try.func39, Try.ntmps39
  go_wp2_with fail
  go_loopw [4, 3] (fun s l wr2 => ∃ (x : Nat) (z : Value), x ≤ t ∧ s = .int .i64 x ∧ l = z ∧ Own wr2 w.heap.size 3 z (pickL (fun _ => true) x) ∧ Below w.heap.size w wr2) (fun s _ _ => t - (intOf s).toNat)
  case atStart => exact ⟨0, _, by omega, rfl, rfl, own_nil _ _ _, Below.refl _ _⟩
  case round =>
    obtain ⟨x, z, hx, rfl, hz, hO, hB⟩ := hrel
    subst hz
    have HO := Lib.hid hO; have HB := Lib.hid hB
    have hsz := hB.size
    have hpl := pickL_len (fun _ => true) x
    clear hO hB
    by_cases hxn : x < t
    · go_wp2_with (at_builtin; refine app_own rfl _ _ rfl rfl (HO.out.alloc _) _ _ rfl (by rw [World.cell?_alloc_new]; rfl) (by omega) (by rw [World.size_alloc]; omega) ?_; intro v' w1 hown1 hgrow)
      have HO1 := Lib.hid hown1
      have HB1 := Lib.hid ((HB.out.alloc hsz _).grown hgrow (by rw [World.size_alloc]; omega) (fun k hk => (HO.out.block k hk).1))
      clear hown1 hgrow
      go_roundw
      case rel => exact ⟨x + 1, _, by omega, by go_num, rfl, by rw [pickL_yes rfl]; exact HO1.out, HB1.out⟩
      case measure => simp [intOf]; omega
    · obtain rfl : x = t := by omega
      go_wp2_with fail
      go_ret
      exact ⟨_, rfl, HO.out, HB.out⟩
end Go.Proofs.Ytkmcmahpfhlkhaa
