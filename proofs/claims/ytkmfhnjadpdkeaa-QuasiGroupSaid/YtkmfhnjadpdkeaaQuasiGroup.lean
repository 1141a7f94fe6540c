/-
  The walk of QuasiGroup: it returns true, and what there was is as it was. No condition.
-/
import Derived.Test.YtkmfhnjadpdkeaaGroup
import Derived.Test.YtkmfhnjadpdkeaaQuasiFact
namespace Go.Proofs.Ytkmfhnjadpdkeaa
open Go.RowKit

theorem first_spec (f : Nat → Bool) : ∀ n, first f n ≠ -1 → ∃ k, k < n ∧ first f n = (k : Int) ∧ f k = true
  | 0, h => absurd rfl h
  | n + 1, h => by
    rw [first] at h ⊢
    by_cases e : first f n = -1
    · rw [if_pos e] at h ⊢
      cases e2 : f n
      · rw [e2] at h; exact absurd rfl h
      · exact ⟨n, by omega, by simp, e2⟩
    · rw [if_neg e]
      obtain ⟨k, a, b, c⟩ := first_spec f n e
      exact ⟨k, by omega, b, c⟩
theorem first_none {f : Nat → Bool} {n k : Nat} (h : first f n = -1) (hk : k < n) : f k = false := by
  induction n with
  | zero => omega
  | succ n ih =>
    rw [first] at h
    by_cases e : first f n = -1
    · rw [if_pos e] at h
      by_cases e2 : k = n
      · subst e2
        cases e3 : f k
        · rfl
        · rw [e3] at h; simp at h
      · exact ih e (by omega)
    · rw [if_neg e] at h; exact absurd h e
theorem grp_of {n : Nat} {xs : List Int} (h : IsLatin n xs) (ha : allTo (assocY n xs) n = true) : Grp n (qn n xs) := by
  refine ⟨fun hi hj => qn_lt h hi hj, fun hi hj hk e => ?_, fun hi hj hk e => ?_, fun {i b} hi hb => ?_, fun {i b} hi hb => ?_, fun {x y z} hx hy hz => ?_⟩
  · exact h.row_inj hi hj hk (by rw [qn_qat h hi hj, qn_qat h hi hk, e])
  · exact h.col_inj hi hj hk (by rw [qn_qat h hj hi, qn_qat h hk hi, e])
  · obtain ⟨j, hj, e⟩ := h.row_has hi (b := (b : Int)) (by omega)
    exact ⟨j, hj, by unfold qn; omega⟩
  · obtain ⟨j, hj, e⟩ := h.col_has hi (b := (b : Int)) (by omega)
    exact ⟨j, hj, by unfold qn; omega⟩
  · have h1 := allTo_iff.1 (allTo_iff.1 (allTo_iff.1 ha x hx) y hy) z hz
    simpa [assocP] using h1
theorem unit_of {n : Nat} {xs : List Int} (h : IsLatin n xs) (g : Grp n (qn n xs)) : ∃ u : Nat, first (unitU n xs) n = (u : Int) ∧ IsUnit n (qn n xs) u := by
  have hn : 0 < n := by have := h.lo; omega
  obtain ⟨u0, hu0, hu1⟩ := g.unit hn
  have hne : first (unitU n xs) n ≠ -1 := fun e => by
    have h2 := first_none e hu0
    have : unitU n xs u0 = true := allTo_iff.2 fun y hy => by simp [unitP, hu1 y hy]
    rw [this] at h2; cases h2
  obtain ⟨u, a, b, c⟩ := first_spec _ n hne
  refine ⟨u, b, a, fun y hy => ?_⟩
  have := allTo_iff.1 c y hy
  simpa [unitP] using this
theorem inv_of {n : Nat} {xs : List Int} (h : IsLatin n xs) (g : Grp n (qn n xs)) {u : Nat} (hu : IsUnit n (qn n xs) u) (x : Nat) (hx : x < n) : ∃ y, y < n ∧ qat n xs x y = u ∧ qat n xs y x = u := by
  obtain ⟨y, hy, e1⟩ := g.rhas hx hu.1
  obtain ⟨z, hz, e2⟩ := g.chas hx hu.1
  obtain rfl := g.inv hu hx hy hz e1 e2
  exact ⟨y, hy, by rw [qn_qat h hx hy, e1], by rw [qn_qat h hy hx, e2]⟩
/-- How many of the first m bits are set. -/
def bitsTo (c m : Nat) : Nat := szB m (tb c)
theorem bitsTo_succ (c m : Nat) : bitsTo c (m + 1) = bitsTo c m + if tb c m then 1 else 0 := rfl
theorem bitsTo_le (c : Nat) : ∀ m, bitsTo c m ≤ m
  | 0 => Nat.le_refl _
  | m + 1 => by have := bitsTo_le c m; rw [bitsTo_succ]; split <;> omega
theorem some_bit {c n : Nat} (h1 : 1 ≤ c) (h2 : c < 2 ^ n) : ∃ x, x < n ∧ tb c x = true := by
  cases Classical.em (∃ x, x < n ∧ tb c x = true) with
  | inl h => exact h
  | inr h =>
    exfalso
    have : c = 0 := Nat.eq_of_testBit_eq fun i => by
      rw [Nat.zero_testBit]
      by_cases hi : i < n
      · cases e : c.testBit i
        · rfl
        · exact absurd ⟨i, hi, e⟩ h
      · exact Nat.testBit_lt_two_pow (Nat.lt_of_lt_of_le h2 (Nat.pow_le_pow_right (by omega) (by omega)))
    omega
theorem closed_law {n : Nat} {xs : List Int} {u c : Nat} (g : Grp n (qn n xs)) (hu : IsUnit n (qn n xs) u) (h1 : 1 ≤ c) (h2 : c < 2 ^ n) (hc : closedB n xs c = true) :
    tb c u = true ∧ 1 ≤ bitsTo c n ∧ n % bitsTo c n = 0 := by
  have hS : ∀ x y, x < n → y < n → tb c x = true → tb c y = true → tb c (qn n xs x y) = true := by
    intro x y hx hy a b
    have h3 := allTo_iff.1 (allTo_iff.1 hc x hx) y hy
    unfold outP at h3
    rw [a, b] at h3
    simpa using h3
  obtain ⟨x, hx, hb⟩ := some_bit h1 h2
  have hut := g.holds hS hu hx hb
  have hp : 1 ≤ bitsTo c n := by
    have := sumTo_mem (fun j => if tb c j then 1 else 0) n hx
    simp only [hb, if_true] at this
    exact this
  refine ⟨hut, hp, ?_⟩
  obtain ⟨k, hk⟩ := g.lagrange hS hu hut n (fun _ => true) (by
    have e : ∀ m, szB m (fun _ => true) = m := by intro m; induction m with | zero => rfl | succ m ih => rw [szB, sumTo]; rw [szB] at ih; rw [ih]; rfl
    rw [e]; exact Nat.le_refl _) (fun _ _ _ _ _ _ => rfl)
  have e : ∀ m, szB m (fun _ => true) = m := by intro m; induction m with | zero => rfl | succ m ih => rw [szB, sumTo]; rw [szB] at ih; rw [ih]; rfl
  rw [e] at hk
  have : n = bitsTo c n * k := hk
  generalize bitsTo c n = q at *
  rw [this]
  exact Nat.mul_mod_right q k

set_option maxRecDepth 100000 in
set_option maxHeartbeats 2000000 in
theorem quasiGroup_walk (s : Int) (v : Value) (xs : List Int) (w : World)
    (hs : -9223372036854775808 ≤ s ∧ s ≤ 9223372036854775807) (h : IntsAt w v xs) (_ : Fits xs) :
    Calls Try.prog 10 #[.agg #[.int .i64 s, v]] w fun e w' => e = .returned (.bool true) ∧ Below w.heap.size w w' := by
  have HB := Lib.hid (below_box w (.cells #[.int .i64 s, v] 24))
  have HI := Lib.hid (h.below HB.out)
  clear h
  cases e1 : (latinFault s xs == 0)
  · have Hne : Hid (latinFault s xs ≠ 0) := by show _ ≠ _; simpa using e1
    have e2 : (latinFault s xs != 0) = true := by simpa using Hne.out
    clear e1
    go_enter Try.func10, Try.ntmps10
    go_wp2_with fail
    refine (quasiFact_any _).mono ?_
    rintro e w1 ⟨rfl, hb⟩
    have H1 := Lib.hid hb; clear hb
    obtain ⟨hz, k0, k1⟩ := box1 H1.out
    go_wp2_with fail
    refine (assoc_no s v xs _ (HI.out.below H1.out) Hne.out).mono ?_
    rintro e w2 ⟨rfl, hb⟩
    have H2 := Lib.hid (belowTrans H1.out hb); clear hb hz k0 k1
    go_wp2_with fail
    go_ret
    exact ⟨rfl, belowTrans HB.out H2.out⟩
  · have L0 : Hid (latinFault s xs = 0) := by show _ = _; simpa using e1
    have HL := Lib.hid (latin_of L0.out)
    clear e1 L0
    obtain ⟨n, rfl⟩ := Int.eq_ofNat_of_zero_le (show 0 ≤ s by have := HL.out.lo; omega)
    have hn8 : n ≤ 8 := by have := HL.out.hi; omega
    cases ea : allTo (assocY n xs) n
    · have Ha := Lib.hid ea; clear ea
      go_enter Try.func10, Try.ntmps10
      go_wp2_with fail
      refine (quasiFact_any _).mono ?_
      rintro e w1 ⟨rfl, hb⟩
      have H1 := Lib.hid hb; clear hb
      obtain ⟨hz, k0, k1⟩ := box1 H1.out
      go_wp2_with fail
      refine (assoc_yes n v xs _ (HI.out.below H1.out) HL.out).mono ?_
      rw [Ha.out]
      rintro e w2 ⟨rfl, hb⟩
      have H2 := Lib.hid (belowTrans H1.out hb); clear hb hz k0 k1
      go_wp2_with fail
      go_ret
      exact ⟨rfl, belowTrans HB.out H2.out⟩
    · have Ha := Lib.hid ea; clear ea
      have HG := Lib.hid (grp_of HL.out Ha.out)
      obtain ⟨u, hu1, hu2⟩ := unit_of HL.out HG.out
      have HU1 := Lib.hid hu1; have HU2 := Lib.hid hu2
      have hun := hu2.1
      clear hu1 hu2
      obtain ⟨hp1, hp2⟩ := pow_le hn8
      have hsh : Value.int .i64 (wrap64 ((2 : Int) ^ n)) = Value.int .i64 ((2 ^ n : Nat) : Int) := shl_val (j := n) (by omega)
      obtain ⟨M, hM⟩ : ∃ M, M = 2 ^ n := ⟨_, rfl⟩
      rw [← hM] at hp1 hp2 hsh
      have HM : Hid (M = 2 ^ n) := hM
      have hpI : (2 : Int) ^ n = (M : Int) := by rw [hM, Int.natCast_pow]; rfl
      clear hsh hM
      go_enter Try.func10, Try.ntmps10
      go_wp2_with fail
      refine (quasiFact_any _).mono ?_
      rintro e w1 ⟨rfl, hb⟩
      have H1 := Lib.hid hb; clear hb
      obtain ⟨hz, k0, k1⟩ := box1 H1.out
      go_wp2_with fail
      refine (assoc_yes n v xs _ (HI.out.below H1.out) HL.out).mono ?_
      rw [Ha.out]
      rintro e w2 ⟨rfl, hb⟩
      have H2 := Lib.hid (belowTrans H1.out hb); clear hb hz k0 k1 H1
      obtain ⟨hz, k0, k1⟩ := box1 H2.out
      go_wp2_with fail
      refine (unit_yes n v xs _ (HI.out.below H2.out) HL.out).mono ?_
      rw [HU1.out, if_neg (show ¬ ((u : Int) = -1) by omega), if_neg (show ¬ ((u : Int) = -1) by omega)]
      rintro e w3 ⟨rfl, hb⟩
      have H3 := Lib.hid (belowTrans H2.out hb); clear hb hz k0 k1 H2
      obtain ⟨hz, k0, k1⟩ := box1 H3.out
      go_wp2_with fail
      go_loopw [7] (fun sx wr => ∃ x : Nat, x ≤ n ∧ sx = .int .i64 x ∧ Below (w.alloc (.cells #[.int .i64 n, v] 24)).heap.size (w.alloc (.cells #[.int .i64 n, v] 24)) wr) (fun sx _ => n - (intOf sx).toNat)
      case atStart => exact ⟨0, by omega, rfl, H3.out⟩
      case round =>
        clear H3 hz k0 k1
        obtain ⟨x, hx, rfl, hb⟩ := hrel
        have Hb := Lib.hid hb; clear hb
        obtain ⟨y1, y2, y3⟩ := box1 Hb.out
        by_cases hlt : x < n
        · obtain ⟨y, hy, hyl, hyr⟩ := inv_of HL.out HG.out HU2.out x hlt
          have HYL := Lib.hid hyl; have HYR := Lib.hid hyr; clear hyl hyr
          go_wp2_with fail
          refine (left_yes n x u y v xs _ (HI.out.below Hb.out) HL.out hlt hun hy HYL.out).mono ?_
          rintro e w4 ⟨rfl, hb⟩
          have H4 := Lib.hid (belowTrans Hb.out hb); clear hb y1 y2 y3
          obtain ⟨y1, y2, y3⟩ := box1 H4.out
          go_wp2_with fail
          refine (right_yes n x u y v xs _ (HI.out.below H4.out) HL.out hlt hun hy HYR.out).mono ?_
          rintro e w5 ⟨rfl, hb⟩
          have H5 := Lib.hid (belowTrans H4.out hb); clear hb y1 y2 y3
          go_wp2_with fail
          go_roundw
          case rel => exact ⟨x + 1, by omega, by go_num, H5.out⟩
          case measure => simp [intOf]; omega
        · obtain rfl : x = n := by omega
          go_wp2_with fail
          go_loopw [12] (fun sc wr => ∃ c : Nat, c + 1 ≤ M ∧ sc = .int .i64 ((c : Int) + 1) ∧ Below (w.alloc (.cells #[.int .i64 x, v] 24)).heap.size (w.alloc (.cells #[.int .i64 x, v] 24)) wr) (fun sc _ => M - (intOf sc).toNat)
          case atStart => exact ⟨0, by omega, rfl, Hb.out⟩
          case round =>
            clear Hb y1 y2 y3
            obtain ⟨c, hc, rfl, hb⟩ := hrel
            have Hb := Lib.hid hb; clear hb
            obtain ⟨y1, y2, y3⟩ := box1 Hb.out
            by_cases hlc : c + 1 < M
            · cases ec : closedB x xs (c + 1)
              · have Hec := Lib.hid ec; clear ec
                go_wp2_with fail
                refine (show Calls Try.prog 43 #[.agg #[.int .i64 x, v], .int .i64 ((c : Int) + 1)] wr _ from by have := closedOf_any x (c + 1) v xs wr (HI.out.below Hb.out) HL.out (by omega); rw [Hec.out] at this; exact this).mono ?_
                rintro e w4 ⟨rfl, hb⟩
                have H4 := Lib.hid (belowTrans Hb.out hb); clear hb
                go_wp2_with fail
                go_roundw
                case rel => exact ⟨c + 1, by omega, by go_num, H4.out⟩
                case measure => simp [intOf]; omega
              · have Hec := Lib.hid ec; clear ec
                obtain ⟨q1, q2, q3⟩ := closed_law HG.out HU2.out (show 1 ≤ c + 1 by omega) (by rw [← HM.out]; exact hlc) Hec.out
                have Q1 := Lib.hid q1; have Q3 := Lib.hid q3
                clear q1 q3
                have hle := bitsTo_le (c + 1) x
                go_wp2_with fail
                refine (show Calls Try.prog 43 #[.agg #[.int .i64 x, v], .int .i64 ((c : Int) + 1)] wr _ from by have := closedOf_any x (c + 1) v xs wr (HI.out.below Hb.out) HL.out (by omega); rw [Hec.out] at this; exact this).mono ?_
                rintro e w4 ⟨rfl, hb⟩
                have H4 := Lib.hid (belowTrans Hb.out hb); clear hb y1 y2 y3
                obtain ⟨y1, y2, y3⟩ := box1 H4.out
                go_wp2_with fail
                go_loop [14, 15] (fun sn sx => ∃ k : Nat, k ≤ x ∧ sx = .int .i64 k ∧ sn = .int .i64 (bitsTo (c + 1) k)) (fun _ sx => x - (intOf sx).toNat)
                case atStart => exact ⟨0, by omega, rfl, rfl⟩
                case round =>
                  obtain ⟨k, hk, rfl, rfl⟩ := hrel
                  have hlek := bitsTo_le (c + 1) k
                  by_cases hkx : k < x
                  · have Hs := Lib.hid (bitsTo_succ (c + 1) k)
                    have b1 := shr_and (c + 1) k (by omega)
                    rw [show ((c + 1 : Nat) : Int) = (c : Int) + 1 by omega] at b1
                    cases et : tb (c + 1) k
                    all_goals
                      rw [et] at b1
                      have Ht := Lib.hid et; clear et
                      go_wp2_with fail
                      go_round
                      case rel => exact ⟨k + 1, by omega, by go_num, by rw [Hs.out, Ht.out]; go_num⟩
                      case measure => simp [intOf]; omega
                  · obtain rfl : k = x := by omega
                    have b2 := shr_and_zero (c + 1) u (by omega)
                    rw [Q1.out, show ((c + 1 : Nat) : Int) = (c : Int) + 1 by omega] at b2
                    have hne0 : ¬ bitsTo (c + 1) k = 0 := by omega
                    have b3 : ((k : Int) % ((bitsTo (c + 1) k : Nat) : Int) != 0) = false := by
                      rw [← Int.natCast_emod, Q3.out]; rfl
                    go_wp2_with fail
                    go_roundw
                    case rel => exact ⟨c + 1, by omega, by go_num, H4.out⟩
                    case measure => simp [intOf]; omega
            · obtain rfl : M = c + 1 := by omega
              go_wp2_with fail
              go_ret
              exact ⟨rfl, belowTrans HB.out Hb.out⟩

end Go.Proofs.Ytkmfhnjadpdkeaa
