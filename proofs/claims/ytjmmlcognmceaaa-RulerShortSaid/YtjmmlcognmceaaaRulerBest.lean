/-
  The walk of RulerBest: it returns true, and what there was is as it was. No condition.
-/
import Derived.Test.YtjmmlcognmceaaaBest
import Derived.Test.YtjmmlcognmceaaaInts
namespace Go.Proofs.Ytjmmlcognmceaaa
open Go.RowKit

/-- A ruler of some marks. -/
def someRuler : List Int := [0, 1, 3, 7, 15, 31, 63]
theorem ruler_ends (n : Nat) (h1 : 1 ≤ n) (h7 : n ≤ 7) : ∃ E : Int, 0 ≤ E ∧ E ≤ 63 ∧ (mk E (n - 1) [0]).isSome = true := by
  have key : ∀ (zs : List Int) (E : Int), golB ([0] ++ zs) = true → lastM ([0] ++ zs) = E → (∀ i, i < zs.length → ix ([0] ++ zs) i < ix ([0] ++ zs) (i + 1)) → (mk E zs.length [0]).isSome = true :=
    fun zs E a b c => mk_isSome a b (fun i _ hi => c i (by simp at hi; omega)) (by decide)
  have : n = 1 ∨ n = 2 ∨ n = 3 ∨ n = 4 ∨ n = 5 ∨ n = 6 ∨ n = 7 := by omega
  rcases this with rfl | rfl | rfl | rfl | rfl | rfl | rfl
  · exact ⟨0, by omega, by omega, key [] 0 (by decide +kernel) (by decide +kernel) (by decide +kernel)⟩
  · exact ⟨1, by omega, by omega, key [1] 1 (by decide +kernel) (by decide +kernel) (by decide +kernel)⟩
  · exact ⟨3, by omega, by omega, key [1, 3] 3 (by decide +kernel) (by decide +kernel) (by decide +kernel)⟩
  · exact ⟨7, by omega, by omega, key [1, 3, 7] 7 (by decide +kernel) (by decide +kernel) (by decide +kernel)⟩
  · exact ⟨15, by omega, by omega, key [1, 3, 7, 15] 15 (by decide +kernel) (by decide +kernel) (by decide +kernel)⟩
  · exact ⟨31, by omega, by omega, key [1, 3, 7, 15, 31] 31 (by decide +kernel) (by decide +kernel) (by decide +kernel)⟩
  · exact ⟨63, by omega, by omega, key [1, 3, 7, 15, 31, 63] 63 (by decide +kernel) (by decide +kernel) (by decide +kernel)⟩
/-- The shortest length, its first ruler. -/
theorem first_end (P : Nat → Option (List Int)) : ∀ (E : Nat), (P E).isSome = true → ∃ (m : Nat) (r : List Int), m ≤ E ∧ P m = some r ∧ ∀ j, j < m → P j = none := by
  intro E
  induction E using Nat.strongRecOn with
  | ind E ih =>
    intro h
    cases Classical.em (∃ j, j < E ∧ (P j).isSome = true) with
    | inl hex =>
      obtain ⟨j, hj, hp⟩ := hex
      obtain ⟨m, r, a, b, c⟩ := ih j hj hp
      exact ⟨m, r, by omega, b, c⟩
    | inr hno =>
      cases e : P E with
      | none => rw [e] at h; cases h
      | some r =>
        refine ⟨E, r, Nat.le_refl _, e, fun j hj => ?_⟩
        cases e2 : P j with
        | none => rfl
        | some q => exact absurd ⟨j, hj, by rw [e2]; rfl⟩ hno
/-- m is the shortest length of rulers of n marks, r its first ruler. -/
structure Shortest (n m : Nat) (r : List Int) : Prop where
  one : 1 ≤ n
  seven : n ≤ 7
  low : n ≤ m + 1
  high : m ≤ 63
  is : mk m (n - 1) [0] = some r
  not : ∀ j, j < m → mk j (n - 1) [0] = none
theorem shortest_ex (n : Nat) (h1 : 1 ≤ n) (h7 : n ≤ 7) : ∃ m r, Shortest n m r := by
  obtain ⟨E, e1, e2, e3⟩ := ruler_ends n h1 h7
  obtain ⟨E, rfl⟩ := Int.eq_ofNat_of_zero_le e1
  obtain ⟨m, r, a, b, c⟩ := first_end (fun j => mk j (n - 1) [0]) E e3
  have := mk_le b
  have e : lastM [0] = 0 := rfl
  rw [e] at this
  exact ⟨m, r, h1, h7, by omega, by omega, b, c⟩
def BestPost (n : Int) (w : World) (e : Ending) (w' : World) : Prop :=
  Below w.heap.size w w' ∧ if 1 ≤ n ∧ n ≤ 7 then ∀ m r, Shortest n.toNat m r → ∃ v, e = .returned (.tuple #[v, .int .i64 0]) ∧ IntsAt w' v r
  else e = .returned (.tuple #[.slice none 0 0, .int .i64 1])
theorem intsAt_zero (w : World) : IntsAt (w.alloc (.cells #[.int .i64 0] 3)) (.slice (some ⟨w.heap.size, 0, none⟩) 1 1) [0] := by
  refine ⟨some ⟨w.heap.size, 0, none⟩, 1, rfl, Nat.le_refl _, by omega, (fun h => by cases h), fun i hi => ⟨w.heap.size, 0, rfl, by simp, fun j hj => ?_⟩⟩
  simp at hj
  subst hj
  exact World.cell?_alloc_new w #[.int .i64 0] 3 0
theorem upto_zero (e : Int) (h : 0 ≤ e) : Upto e [0] := by
  intro k hk
  simp at hk
  subst hk
  exact ⟨by decide, h⟩
theorem mk_post {o : Option (List Int)} {w w' : World} {e : Ending} (h : MarkPost o w e w') : MarkPost o w e w' := h

set_option maxRecDepth 100000 in
set_option maxHeartbeats 1000000 in
theorem best_call (n : Int) (w : World) : Calls Try.prog 17 #[.int .i64 n] w (BestPost n w) := by
  by_cases s1 : n < 1
  · have ed : decide (n < 1) = true := by simpa using s1
    have H : Hid (¬ (1 ≤ n ∧ n ≤ 7)) := by show ¬ _; omega
    go_enter Try.func17, Try.ntmps17
    go_wp2_with fail
    go_ret2
    exact ⟨Below.refl _ _, by rw [if_neg H.out]; rfl⟩
  · have ed : decide (n < 1) = false := by simpa using s1
    by_cases s2 : 7 < n
    · have ed2 : decide (7 < n) = true := by simpa using s2
      have H : Hid (¬ (1 ≤ n ∧ n ≤ 7)) := by show ¬ _; omega
      go_enter Try.func17, Try.ntmps17
      go_wp2_with fail
      go_ret2
      exact ⟨Below.refl _ _, by rw [if_neg H.out]; rfl⟩
    · have ed2 : decide (7 < n) = false := by simpa using s2
      obtain ⟨n, rfl⟩ := Int.eq_ofNat_of_zero_le (show 0 ≤ n by omega)
      have H : Hid (1 ≤ (n : Int) ∧ (n : Int) ≤ 7) := by show _ ∧ _; omega
      obtain ⟨m, r, hS⟩ := shortest_ex n (by omega) (by omega)
      have HS := Lib.hid hS
      have h1 := hS.one; have h7 := hS.seven; have hlo := hS.low; have hhi := hS.high
      clear hS
      go_enter Try.func17, Try.ntmps17
      go_wp2_with fail
      go_loopw [4] (fun s wr => ∃ q : Nat, n ≤ q + 1 ∧ q ≤ m ∧ s = .int .i64 q ∧ Below w.heap.size w wr) (fun s _ => m + 1 - (intOf s).toNat)
      case atStart => exact ⟨n - 1, by omega, by omega, by rw [Int.natCast_sub (by omega)]; rfl, Below.refl _ _⟩
      case round =>
        obtain ⟨q, hq1, hq2, rfl, hb⟩ := hrel
        have HB := Lib.hid hb; clear hb
        have HC := Lib.hid (best_any n q h7 (by omega) (by omega) (n - 1) [0] _ _ (by simp; omega) (by simp) (upto_zero q (by omega)) (intsAt_zero wr))
        by_cases hqm : q < m
        · rw [HS.out.not q hqm] at HC
          go_wp2_with fail
          refine (HC.out).mono ?_
          intro e w1 hp
          obtain ⟨hb, v1, rfl⟩ := hp
          have HB1 := Lib.hid (belowTrans HB.out ((below_box wr _).trans (hb.mono (by simp)))); clear hb
          go_wp2_with fail
          go_roundw
          case rel => exact ⟨q + 1, by omega, by omega, by go_num, HB1.out⟩
          case measure => simp [intOf]; omega
        · obtain rfl : q = m := by omega
          rw [HS.out.is] at HC
          go_wp2_with fail
          refine (HC.out).mono ?_
          intro e w1 hp
          obtain ⟨hb, v1, rfl, hI⟩ := hp
          have HB1 := Lib.hid (belowTrans HB.out ((below_box wr _).trans (hb.mono (by simp)))); clear hb
          have HI := Lib.hid hI; clear hI
          go_wp2_with fail
          go_ret2
          refine ⟨HB1.out, ?_⟩
          rw [if_pos H.out]
          intro m' r' hS'
          have : q = m' ∧ r = r' := by
            have h3 := HS.out
            rw [Int.toNat_natCast] at hS'
            rcases Nat.lt_trichotomy q m' with h | h | h
            · have := hS'.not q h; rw [h3.is] at this; cases this
            · subst h; have := hS'.is; rw [h3.is] at this; injection this with this; exact ⟨rfl, this⟩
            · have := h3.not m' h; rw [hS'.is] at this; cases this
          rw [← this.2]
          exact ⟨_, rfl, HI.out⟩
set_option maxRecDepth 100000 in
set_option maxHeartbeats 1000000 in
theorem bestOf_call (n : Int) (w : World) : Calls Try.prog 18 #[.int .i64 n] w (BestPost n w) := by
  by_cases s1 : n < 1
  · have ed : decide (n < 1) = true := by simpa using s1
    have H : Hid (¬ (1 ≤ n ∧ n ≤ 7)) := by show ¬ _; omega
    go_enter Try.func18, Try.ntmps18
    go_wp2_with fail
    go_ret2
    exact ⟨Below.refl _ _, by rw [if_neg H.out]; rfl⟩
  · have ed : decide (n < 1) = false := by simpa using s1
    by_cases s2 : 7 < n
    · have ed2 : decide (7 < n) = true := by simpa using s2
      have H : Hid (¬ (1 ≤ n ∧ n ≤ 7)) := by show ¬ _; omega
      go_enter Try.func18, Try.ntmps18
      go_wp2_with fail
      go_ret2
      exact ⟨Below.refl _ _, by rw [if_neg H.out]; rfl⟩
    · have ed2 : decide (7 < n) = false := by simpa using s2
      obtain ⟨n, rfl⟩ := Int.eq_ofNat_of_zero_le (show 0 ≤ n by omega)
      have H : Hid (1 ≤ (n : Int) ∧ (n : Int) ≤ 7) := by show _ ∧ _; omega
      obtain ⟨m, r, hS⟩ := shortest_ex n (by omega) (by omega)
      have HS := Lib.hid hS
      have h1 := hS.one; have h7 := hS.seven; have hlo := hS.low; have hhi := hS.high
      clear hS
      go_enter Try.func18, Try.ntmps18
      go_wp2_with fail
      go_loopw [4] (fun s wr => ∃ q : Nat, q ≤ m ∧ s = .int .i64 q ∧ Below w.heap.size w wr) (fun s _ => m + 1 - (intOf s).toNat)
      case atStart => exact ⟨0, by omega, rfl, Below.refl _ _⟩
      case round =>
        obtain ⟨q, hq2, rfl, hb⟩ := hrel
        have HB := Lib.hid hb; clear hb
        have HC := Lib.hid (marked_any n q h7 (by omega) (by omega) (n - 1) [0] _ _ (by simp; omega) (by simp) (upto_zero q (by omega)) (intsAt_zero wr))
        by_cases hqm : q < m
        · rw [HS.out.not q hqm] at HC
          go_wp2_with fail
          refine (HC.out).mono ?_
          intro e w1 hp
          obtain ⟨hb, v1, rfl⟩ := hp
          have HB1 := Lib.hid (belowTrans HB.out ((below_box wr _).trans (hb.mono (by simp)))); clear hb
          go_wp2_with fail
          go_roundw
          case rel => exact ⟨q + 1, by omega, by go_num, HB1.out⟩
          case measure => simp [intOf]; omega
        · obtain rfl : q = m := by omega
          rw [HS.out.is] at HC
          go_wp2_with fail
          refine (HC.out).mono ?_
          intro e w1 hp
          obtain ⟨hb, v1, rfl, hI⟩ := hp
          have HB1 := Lib.hid (belowTrans HB.out ((below_box wr _).trans (hb.mono (by simp)))); clear hb
          have HI := Lib.hid hI; clear hI
          go_wp2_with fail
          go_ret2
          refine ⟨HB1.out, ?_⟩
          rw [if_pos H.out]
          intro m' r' hS'
          have : q = m' ∧ r = r' := by
            have h3 := HS.out
            rw [Int.toNat_natCast] at hS'
            rcases Nat.lt_trichotomy q m' with h | h | h
            · have := hS'.not q h; rw [h3.is] at this; cases this
            · subst h; have := hS'.is; rw [h3.is] at this; injection this with this; exact ⟨rfl, this⟩
            · have := h3.not m' h; rw [hS'.is] at this; cases this
          rw [← this.2]
          exact ⟨_, rfl, HI.out⟩

set_option maxHeartbeats 1000000 in
theorem rulerBest_walk (n : Int) (w : World) (_ : -9223372036854775808 ≤ n ∧ n ≤ 9223372036854775807) :
    Calls Try.prog 4 #[.int .i64 n] w fun e w' => e = .returned (.bool true) ∧ Below w.heap.size w w' := by
  by_cases hn : 1 ≤ n ∧ n ≤ 7
  · have HN := Lib.hid hn
    obtain ⟨m, r, hS⟩ := shortest_ex n.toNat (by omega) (by omega)
    have HS := Lib.hid hS
    clear hn hS
    go_enter Try.func4, Try.ntmps4
    go_wp2_with fail
    refine (best_call n _).mono ?_
    intro e w1 hp
    obtain ⟨hb, hp⟩ := hp
    rw [if_pos HN.out] at hp
    obtain ⟨v1, rfl, hI⟩ := hp m r HS.out
    have H1 := Lib.hid hb; have HI1 := Lib.hid hI
    clear hb hp hI
    go_wp2_with fail
    refine (bestOf_call n _).mono ?_
    intro e w2 hp
    obtain ⟨hb, hp⟩ := hp
    rw [if_pos HN.out] at hp
    obtain ⟨v2, rfl, hI⟩ := hp m r HS.out
    have H2 := Lib.hid (belowTrans H1.out hb); have HI2 := Lib.hid (HI1.out.below hb); have HI3 := Lib.hid hI
    clear hb hp hI
    go_wp2_with fail
    refine (ints_bel _ _ _ _ _ HI2.out HI3.out).mono ?_
    rw [eqI_refl]
    rintro e w3 ⟨rfl, hb⟩
    have H3 := Lib.hid (belowTrans H2.out hb); clear hb
    go_wp2_with fail
    go_ret
    exact ⟨rfl, H3.out⟩
  · have HN := Lib.hid hn
    clear hn
    go_enter Try.func4, Try.ntmps4
    go_wp2_with fail
    refine (best_call n _).mono ?_
    intro e w1 hp
    obtain ⟨hb, hp⟩ := hp
    rw [if_neg HN.out] at hp
    subst hp
    have H1 := Lib.hid hb
    clear hb
    go_wp2_with fail
    refine (bestOf_call n _).mono ?_
    intro e w2 hp
    obtain ⟨hb, hp⟩ := hp
    rw [if_neg HN.out] at hp
    subst hp
    have H2 := Lib.hid (belowTrans H1.out hb)
    clear hb
    go_wp2_with fail
    refine (ints_bel _ _ [] [] _ (intsAt_nil _) (intsAt_nil _)).mono ?_
    rw [eqI_refl]
    rintro e w3 ⟨rfl, hb⟩
    have H3 := Lib.hid (belowTrans H2.out hb); clear hb
    go_wp2_with fail
    go_ret
    exact ⟨rfl, H3.out⟩
end Go.Proofs.Ytjmmlcognmceaaa
