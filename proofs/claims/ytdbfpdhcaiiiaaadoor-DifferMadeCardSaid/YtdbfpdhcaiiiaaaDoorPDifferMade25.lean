/-
  Contracts: the reference's Power, TraceOf. No condition.
  Contract: the reference's RootOf. No condition.
-/
import Derived.Test.YtdbfpdhcaiiiaaaDoorPDifferMade24
namespace Go.Proofs.YtdbfpdhcaiiiaaaDoor
open Go.RowKit

/-- The product, as the reference has it. -/
def timM (p d : Nat) (low : List Int) (a b : Nat) : Nat := timesV p d (lF low) a b
theorem timM_lt {p d : Nat} {low : List Int} (hF : IsField p d low) (a b : Nat) : timM p d low a b < p ^ d := timesV_lt (by have := hF.p2; omega)
/-- A power by as many products. -/
def rpwS (M : Nat → Nat → Nat) (a : Nat) : Nat → Nat
  | 0 => 1
  | i + 1 => M (rpwS M a i) a
theorem rpwS_lt {p d : Nat} {low : List Int} (hF : IsField p d low) (a i : Nat) : rpwS (timM p d low) a i < p ^ d := by
  cases i with
  | zero =>
    show 1 < p ^ d
    have h1 : p ^ 1 ≤ p ^ d := Nat.pow_le_pow_right (by have := hF.p2; omega) hF.d1
    rw [Nat.pow_one] at h1
    have := hF.p2
    omega
  | succ i => exact timM_lt hF _ _

set_option maxRecDepth 100000 in
set_option maxHeartbeats 3000000 in
theorem rpower_any (P D a n : Nat) (v : Value) (low : List Int) (w : World) (h : IntsAt w v low) (hF : IsField P D low) (ha : a < P ^ D) (hn1 : 1 ≤ n) (hn : n ≤ P ^ D) :
    Calls Tryd.prog 67 #[.agg #[.int .i64 P, .int .i64 D, v], .int .i64 a, .int .i64 n] w fun e w' => e = .returned (.int .i64 (rpwS (timM P D low) a n : Nat)) ∧ Below w.heap.size w w' := by
  obtain ⟨sa, sc, rfl, _⟩ := id h
  have HS := Lib.hid (FbRel.begin w P D (.slice sa low.length sc))
  have HSz : Hid (∀ W, Calls Tryd.prog 32 #[.agg #[.int .i64 P, .int .i64 D, .slice sa low.length sc]] W fun e w' => e = .returned (.int .i64 (P ^ D : Nat)) ∧ Below W.heap.size W w') := fun W => by
    have := size_any P D (.slice sa low.length sc) W ⟨_, _, _, rfl⟩
    rw [hF.q] at this; exact this
  have hq64 := hF.q64
  have HTi : Hid (∀ (x : Nat) W, x < P ^ D → Below w.heap.size w W → Calls Tryd.prog 33 #[.agg #[.int .i64 P, .int .i64 D, .slice sa low.length sc], .int .i64 (x : Int), .int .i64 (a : Int)] W fun e w' => e = .returned (.int .i64 (timM P D low x a : Nat)) ∧ Below W.heap.size W w') :=
    fun x W hx hW => rtimes_any P D x a _ low W (h.below hW) hF (by omega) (by omega)
  have HPl : Hid (∀ i, rpwS (timM P D low) a i < P ^ D) := fun i => rpwS_lt hF a i
  have HSuc : Hid (∀ i, timM P D low (rpwS (timM P D low) a i) a = rpwS (timM P D low) a (i + 1)) := fun i => rfl
  clear h hF ha
  obtain ⟨q, hq⟩ : ∃ q, q = P ^ D := ⟨_, rfl⟩
  rw [← hq] at HSz HTi HPl hq64 hn
  clear hq
  have e1 : (((n : Nat) : Int) == 0) = false := by simp; omega
  have e2 : decide ((q : Int) < (n : Int)) = false := by simp; omega
  have e2n : decide (q < n) = false := by simp; omega
  go_enter Tryd.func67, Tryd.ntmps67
  go_wp2_with fail
  refine (HSz.out _).mono ?_
  rintro e w1 ⟨rfl, hb1⟩
  have HR := Lib.hid (HS.out.step hb1)
  clear hb1
  go_wp2_with fail
  go_loopw [8, 9] (fun x u wr => ∃ i : Nat, i ≤ n ∧ u = .int .i64 i ∧ x = .int .i64 (rpwS (timM P D low) a i : Nat) ∧ FbRel w wr P D (.slice sa low.length sc)) (fun _ u _ => n - (intOf u).toNat)
  case atStart => exact ⟨0, by omega, rfl, rfl, HR.out⟩
  case round =>
    clear HR
    obtain ⟨i, hi, rfl, rfl, hR⟩ := hrel
    have HR := Lib.hid hR; clear hR
    obtain ⟨f0, f1, f2⟩ := HR.out.cells
    by_cases hlt : i < n
    · have hp := HPl.out i
      have HN := Lib.hid (HSuc.out i)
      generalize rpwS (timM P D low) a i = x at *
      go_wp2_with fail
      refine (HTi.out x wr hp HR.out.bel).mono ?_
      rintro e w2 ⟨rfl, hb2⟩
      have HR2 := Lib.hid (HR.out.step hb2)
      clear hb2 f0 f1 f2
      rw [HN.out]
      go_wp2_with fail
      go_roundw
      case rel => exact ⟨i + 1, by omega, by go_num, rfl, HR2.out⟩
      case measure => simp [intOf]; omega
    · obtain rfl : i = n := by omega
      go_wp2_with fail
      go_ret
      exact ⟨rfl, HR.out.bel⟩

/-- The trace, as the reference sums it. -/
def rtrS (p d : Nat) (low : List Int) : Nat → Nat → Nat → Nat
  | 0, s, _ => s
  | k + 1, s, a => rtrS p d low k (addV p d s a) (rpwS (timM p d low) a p)

set_option maxRecDepth 100000 in
set_option maxHeartbeats 3000000 in
theorem rtrace_any (P D a : Nat) (v : Value) (low : List Int) (w : World) (h : IntsAt w v low) (hF : IsField P D low) (ha : a < P ^ D) :
    Calls Tryd.prog 47 #[.agg #[.int .i64 P, .int .i64 D, v], .int .i64 a] w fun e w' => e = .returned (.int .i64 (rtrS P D low D 0 a : Nat)) ∧ Below w.heap.size w w' := by
  obtain ⟨sa, sc, rfl, _⟩ := id h
  have HS := Lib.hid (FbRel.begin w P D (.slice sa low.length sc))
  have hq64 := hF.q64
  have hpq : P ≤ P ^ D := by
    have h1 : P ^ 1 ≤ P ^ D := Nat.pow_le_pow_right (by have := hF.p2; omega) hF.d1
    rw [Nat.pow_one] at h1; exact h1
  have HSu : Hid (∀ (x y : Nat) W, x ≤ 64 → y ≤ 64 → Calls Tryd.prog 34 #[.agg #[.int .i64 P, .int .i64 D, .slice sa low.length sc], .int .i64 x, .int .i64 y] W fun e w' => e = .returned (.int .i64 (addV P D x y : Nat)) ∧ Below W.heap.size W w') :=
    fun x y W hx hy => rsum_any P D x y _ W ⟨_, _, _, rfl⟩ hF.p2 (by have := hF.p61; omega) hF.d1 hF.d6 hF.q64 hx hy
  have HPo : Hid (∀ (x : Nat) W, x < P ^ D → Below w.heap.size w W → Calls Tryd.prog 67 #[.agg #[.int .i64 P, .int .i64 D, .slice sa low.length sc], .int .i64 (x : Int), .int .i64 (P : Int)] W fun e w' => e = .returned (.int .i64 (rpwS (timM P D low) x P : Nat)) ∧ Below W.heap.size W w') :=
    fun x W hx hW => rpower_any P D x P _ low W (h.below hW) hF hx (by have := hF.p2; omega) hpq
  have HAl : Hid (∀ x y, addV P D x y < P ^ D) := fun x y => addV_lt (by have := hF.p2; omega)
  have HPl : Hid (∀ x, rpwS (timM P D low) x P < P ^ D) := fun x => rpwS_lt hF x P
  have hd1 := hF.d1; have hd6 := hF.d6
  clear h hF
  obtain ⟨q, hq⟩ : ∃ q, q = P ^ D := ⟨_, rfl⟩
  rw [← hq] at HPo HAl HPl hq64 hpq ha
  clear hq
  go_enter Tryd.func47, Tryd.ntmps47
  go_wp2_with fail
  go_loopw [1, 5, 6] (fun x s u wr => ∃ k x0 s0 : Nat, k ≤ D ∧ u = .int .i64 k ∧ x = .int .i64 x0 ∧ s = .int .i64 s0 ∧ x0 < q ∧ s0 < 64 ∧ rtrS P D low (D - k) s0 x0 = rtrS P D low D 0 a ∧ FbRel w wr P D (.slice sa low.length sc)) (fun _ _ u _ => D - (intOf u).toNat)
  case atStart => exact ⟨0, a, 0, by omega, rfl, rfl, rfl, ha, by omega, rfl, HS.out⟩
  case round =>
    clear HS
    obtain ⟨k, x, s, hk, rfl, rfl, rfl, hx, hs, htr, hR⟩ := hrel
    have HR := Lib.hid hR; have HTr := Lib.hid htr
    clear hR htr
    obtain ⟨f0, f1, f2⟩ := HR.out.cells
    by_cases hlt : k < D
    · have HN : Hid (rtrS P D low (D - (k + 1)) (addV P D s x) (rpwS (timM P D low) x P) = rtrS P D low D 0 a) := by
        show _ = _
        rw [← HTr.out, show D - k = (D - (k + 1)) + 1 by omega, rtrS]
      have ha1 := HAl.out s x
      have hp1 := HPl.out x
      go_wp2_with fail
      refine (HSu.out s x wr (by omega) (by omega)).mono ?_
      rintro e w2 ⟨rfl, hb2⟩
      have HR2 := Lib.hid (HR.out.step hb2)
      clear hb2 f0 f1 f2
      obtain ⟨f0, f1, f2⟩ := HR2.out.cells
      go_wp2_with fail
      refine (HPo.out x w2 hx HR2.out.bel).mono ?_
      rintro e w3 ⟨rfl, hb3⟩
      have HR3 := Lib.hid (HR2.out.step hb3)
      clear hb3 f0 f1 f2
      generalize addV P D s x = s2 at *
      generalize rpwS (timM P D low) x P = x2 at *
      go_wp2_with fail
      go_roundw
      case rel => exact ⟨k + 1, x2, s2, by omega, by go_num, rfl, rfl, hp1, by omega, HN.out, HR3.out⟩
      case measure => simp [intOf]; omega
    · obtain rfl : k = D := by omega
      have HZ : Hid (s = rtrS P k low k 0 a) := by
        show _ = _
        rw [← HTr.out, Nat.sub_self, rtrS]
      go_wp2_with fail
      go_ret
      exact ⟨ret_int (by rw [HZ.out]), HR.out.bel⟩
end Go.Proofs.YtdbfpdhcaiiiaaaDoor

namespace Go.Proofs.YtdbfpdhcaiiiaaaDoor
open Go.RowKit

/-- The powers of an element till one is 1. -/
def rordS (M : Nat → Nat → Nat) (a q : Nat) : Nat → Nat → Nat → Nat × Nat
  | 0, x, n => (x, n)
  | f + 1, x, n => if x ≠ 1 ∧ n < q then rordS M a q f (M x a) (n + 1) else (x, n)
/-- The least element whose powers are all; 0: none. -/
def rrootS (M : Nat → Nat → Nat) (q : Nat) : Nat → Nat → Nat
  | 0, _ => 0
  | f + 1, a => if a < q then (if (rordS M a q 70 a 1).1 = 1 ∧ (rordS M a q 70 a 1).2 = q - 1 then a else rrootS M q f (a + 1)) else 0

set_option maxRecDepth 100000 in
set_option maxHeartbeats 3000000 in
theorem rroot_any (P D : Nat) (v : Value) (low : List Int) (w : World) (h : IntsAt w v low) (hF : IsField P D low) :
    Calls Tryd.prog 46 #[.agg #[.int .i64 P, .int .i64 D, v]] w fun e w' => e = .returned (.int .i64 (rrootS (timM P D low) (P ^ D) 70 1 : Nat)) ∧ Below w.heap.size w w' := by
  obtain ⟨sa, sc, rfl, _⟩ := id h
  have HS := Lib.hid (FbRel.begin w P D (.slice sa low.length sc))
  have HSz : Hid (∀ W, Calls Tryd.prog 32 #[.agg #[.int .i64 P, .int .i64 D, .slice sa low.length sc]] W fun e w' => e = .returned (.int .i64 (P ^ D : Nat)) ∧ Below W.heap.size W w') := fun W => by
    have := size_any P D (.slice sa low.length sc) W ⟨_, _, _, rfl⟩
    rw [hF.q] at this; exact this
  have hq64 := hF.q64
  have HTi : Hid (∀ (x y : Nat) W, x < P ^ D → y < P ^ D → Below w.heap.size w W → Calls Tryd.prog 33 #[.agg #[.int .i64 P, .int .i64 D, .slice sa low.length sc], .int .i64 (x : Int), .int .i64 (y : Int)] W fun e w' => e = .returned (.int .i64 (timM P D low x y : Nat)) ∧ Below W.heap.size W w') :=
    fun x y W hx hy hW => rtimes_any P D x y _ low W (h.below hW) hF (by omega) (by omega)
  have HTl : Hid (∀ x y, timM P D low x y < P ^ D) := fun x y => timM_lt hF x y
  have hq1 : 1 ≤ P ^ D := pow_one_le (by have := hF.p2; omega) D
  clear h hF
  obtain ⟨q, hq⟩ : ∃ q, q = P ^ D := ⟨_, rfl⟩
  rw [← hq] at HSz HTi HTl hq64 hq1
  rw [← hq]
  clear hq
  obtain ⟨M, hM⟩ : ∃ M, M = timM P D low := ⟨_, rfl⟩
  rw [← hM] at HTi HTl
  rw [← hM]
  clear hM
  go_enter Tryd.func46, Tryd.ntmps46
  go_wp2_with fail
  refine (HSz.out _).mono ?_
  rintro e w1 ⟨rfl, hb1⟩
  have HR := Lib.hid (HS.out.step hb1)
  clear hb1
  go_wp2_with fail
  go_loopw [4, 5, 6] (fun s _ _ wr => ∃ f a : Nat, s = .int .i64 a ∧ 1 ≤ a ∧ a + f = 71 ∧ a ≤ q ∧ rrootS M q f a = rrootS M q 70 1 ∧ FbRel w wr P D (.slice sa low.length sc)) (fun s _ _ _ => 100 - (intOf s).toNat)
  case atStart => exact ⟨70, 1, rfl, by omega, by omega, hq1, rfl, HR.out⟩
  case round =>
    clear HR
    obtain ⟨f, a, rfl, ha1, haf, haq, hP, hR⟩ := hrel
    have HR := Lib.hid hR
    have HAf := Lib.hid haf
    cases f with
    | zero => exfalso; omega
    | succ f =>
      rw [rrootS] at hP
      have HP := Lib.hid hP
      clear hR hP haf
      by_cases hlt : a < q
      · obtain ⟨X, hX⟩ : ∃ X, X = rordS M a q 70 a 1 := ⟨_, rfl⟩
        have HX := Lib.hid hX
        have HP1 : Hid ((if X.1 = 1 ∧ X.2 = q - 1 then a else rrootS M q f (a + 1)) = rrootS M q 70 1) := by
          show _ = _
          rw [← HP.out, if_pos hlt, hX]
        clear hX HP
        go_wp2_with fail
        go_loopw [5, 6] (fun s t wr => ∃ g x n : Nat, s = .int .i64 x ∧ t = .int .i64 n ∧ x < q ∧ n + g = 71 ∧ n ≤ q ∧ rordS M a q g x n = X ∧ FbRel w wr P D (.slice sa low.length sc)) (fun _ t _ => 100 - (intOf t).toNat)
        case atStart => exact ⟨70, a, 1, rfl, rfl, hlt, by omega, hq1, HX.out.symm, HR.out⟩
        case round =>
          clear HR
          obtain ⟨g, x, n, rfl, rfl, hx, hng, hnq, hP2, hR⟩ := hrel
          have HR := Lib.hid hR
          have HNg := Lib.hid hng
          have hn70 : n ≤ 70 := by omega
          cases g with
          | zero => exfalso; omega
          | succ g =>
            rw [rordS] at hP2
            clear hR hng
            by_cases hgo : x ≠ 1 ∧ n < q
            · rw [if_pos hgo] at hP2
              have HP2 := Lib.hid hP2
              have t1 : (((x : Nat) : Int) != 1) = true := by simp; omega
              have hnq2 := hgo.2
              have hl := HTl.out x a
              obtain ⟨f0, f1, f2⟩ := HR.out.cells
              clear hP2 hgo
              go_wp2_with fail
              refine (HTi.out x a _ hx hlt HR.out.bel).mono ?_
              rintro e w2 ⟨rfl, hb2⟩
              have HR2 := Lib.hid (HR.out.step hb2)
              have hNg := HNg.out
              clear hb2 f0 f1 f2
              generalize M x a = y at *
              go_wp2_with fail
              go_roundw
              case rel => exact ⟨g, y, n + 1, rfl, by go_num, hl, by omega, by omega, HP2.out, HR2.out⟩
              case measure => simp [intOf]; omega
            · rw [if_neg hgo] at hP2
              subst hP2
              by_cases hok : x = 1 ∧ n = q - 1
              · have HF : Hid (a = rrootS M q 70 1) := by show _ = _; rw [← HP1.out, if_pos hok]
                have t1 : (((x : Nat) : Int) != 1) = false := by simp; omega
                have t2 : (((x : Nat) : Int) == 1) = true := by simp; omega
                have t3 : (((n : Nat) : Int) == (q : Int) - 1) = true := by simp; omega
                clear hgo hok HX
                go_wp2_with fail
                go_ret
                exact ⟨ret_int (by rw [← HF.out]), HR.out.bel⟩
              · have HF : Hid (rrootS M q f (a + 1) = rrootS M q 70 1) := by show _ = _; rw [← HP1.out, if_neg hok]
                have hAf := HAf.out
                by_cases hx1 : x = 1
                · have t1 : (((x : Nat) : Int) != 1) = false := by simp; omega
                  have t2 : (((x : Nat) : Int) == 1) = true := by simp; omega
                  have t3 : (((n : Nat) : Int) == (q : Int) - 1) = false := by simp; omega
                  clear hgo hok hx1 HX
                  go_wp2_with fail
                  go_roundw
                  case rel => exact ⟨f, a + 1, by go_num, by omega, by omega, by omega, HF.out, HR.out⟩
                  case measure => simp [intOf]; omega
                · have t1 : (((x : Nat) : Int) != 1) = true := by simp; omega
                  have t2 : (((x : Nat) : Int) == 1) = false := by simp; omega
                  have t4 : ¬ n < q := by omega
                  clear hgo hok hx1 HX
                  go_wp2_with fail
                  go_roundw
                  case rel => exact ⟨f, a + 1, by go_num, by omega, by omega, by omega, HF.out, HR.out⟩
                  case measure => simp [intOf]; omega
      · have HF : Hid (0 = rrootS M q 70 1) := by show _ = _; rw [← HP.out, if_neg hlt]
        go_wp2_with fail
        go_ret
        exact ⟨ret_int (by rw [← HF.out]; rfl), HR.out.bel⟩
end Go.Proofs.YtdbfpdhcaiiiaaaDoor
