/-
  The walk of QuasiParastrophes: it returns true, and what there was is as it was, where the table of orders reads as it is laid. No condition but that.
-/
import Derived.Test.YtkmfhnjadpdkeaaDoorConjOf
import Derived.Test.YtkmfhnjadpdkeaaDoorQuasiFact
namespace Go.Proofs.YtkmfhnjadpdkeaaDoor
open Go.RowKit

/-- Two places of the square that go to one place of the conjugate are one. -/
theorem cPlace_inj {n : Nat} {xs : List Int} {k p q : Nat} (h : IsLatin n xs) (hk : k < 6) (hp : p < n * n) (hq : q < n * n) (he : cPlace n xs k p = cPlace n xs k q) : p = q := by
  have a0 := cAt_lt (k := k) (i := 0) h hp; have a1 := cAt_lt (k := k) (i := 1) h hp
  have b0 := cAt_lt (k := k) (i := 0) h hq; have b1 := cAt_lt (k := k) (i := 1) h hq
  unfold cPlace at he
  have e0 : cAt n xs k 0 p = cAt n xs k 0 q := by
    have h1 := place_div (n := n) (i := cAt n xs k 0 p) a1
    have h2 := place_div (n := n) (i := cAt n xs k 0 q) b1
    exact h1.symm.trans ((congrArg (fun z => dv z n) he).trans h2)
  have e1 : cAt n xs k 1 p = cAt n xs k 1 q := by
    have h1 := place_mod (n := n) (i := cAt n xs k 0 p) a1
    have h2 := place_mod (n := n) (i := cAt n xs k 0 q) b1
    exact h1.symm.trans ((congrArg (fun z => md z n) he).trans h2)
  have hlp : p < xs.length := by rw [h.lenN]; exact hp
  have hlq : q < xs.length := by rw [h.lenN]; exact hq
  have rp := h.rng p hlp; have rq := h.rng q hlq
  have dp : p = dv p n * n + md p n := by unfold dv md; rw [Nat.mul_comm]; exact (Nat.div_add_mod p n).symm
  have dq : q = dv q n * n + md q n := by unfold dv md; rw [Nat.mul_comm]; exact (Nat.div_add_mod q n).symm
  have rc : dv p n = dv q n → md p n = md q n → p = q := fun a b => by rw [dp, dq, a, b]
  have rx : dv p n = dv q n → (ix xs p).toNat = (ix xs q).toNat → p = q := fun a b => h.apart hlp hlq (by omega) (.inl a)
  have cx : md p n = md q n → (ix xs p).toNat = (ix xs q).toNat → p = q := fun a b => h.apart hlp hlq (by omega) (.inr a)
  have h1 : k = 0 ∨ k = 1 ∨ k = 2 ∨ k = 3 ∨ k = 4 ∨ k = 5 := by omega
  rcases h1 with rfl | rfl | rfl | rfl | rfl | rfl
  · exact rc e0 e1
  · exact rx e0 e1
  · exact rc e1 e0
  · exact cx e0 e1
  · exact rx e1 e0
  · exact cx e1 e0
/-- What stands at a place of the conjugate. -/
theorem conj_at {n : Nat} {xs : List Int} {k p : Nat} (h : IsLatin n xs) (hk : k < 6) (hp : p < n * n) : ix (conjL n xs k) (cPlace n xs k p) = (cAt n xs k 2 p : Nat) := by
  rw [conjL_ix (cPlace_lt h hp)]
  have key : ∀ m, m ≤ n * n → p < m → cfill n xs k m (cPlace n xs k p) = (cAt n xs k 2 p : Nat) := by
    intro m
    induction m with
    | zero => intro _ h; omega
    | succ m ih =>
      intro hm hpm
      rw [cfill]
      by_cases e : p = m
      · subst e; rw [if_pos rfl]
      · rw [if_neg (fun e2 => e (cPlace_inj h hk hp (by omega) e2)), ih (by omega) (by omega)]
  exact key _ (Nat.le_refl _) hp
theorem triple_at {n : Nat} {r c : Nat} (hr : r < n) (hc : c < n) : dv (r * n + c) n = r ∧ md (r * n + c) n = c ∧ r * n + c < n * n := ⟨place_div hc, place_mod hc, place_lt hr hc⟩
/-- Row r, column c, number x: where they stand in a conjugate. -/
theorem conj_of {n : Nat} {xs : List Int} {k r c x : Nat} (h : IsLatin n xs) (hk : k < 6) (hr : r < n) (hc : c < n) (hx : qat n xs r c = x) :
    qat n (conjL n xs k) (p3 r c x (o3 k 0)) (p3 r c x (o3 k 1)) = (p3 r c x (o3 k 2) : Nat) := by
  obtain ⟨a, b, d⟩ := triple_at (n := n) hr hc
  have := conj_at (k := k) h hk d
  unfold cPlace cAt at this
  have e : (ix xs (r * n + c)).toNat = x := by
    have : ix xs (r * n + c) = qat n xs r c := rfl
    rw [this, hx]; rfl
  rw [a, b, e] at this
  exact this

set_option maxRecDepth 100000 in
set_option maxHeartbeats 2000000 in
theorem quasiParastrophes_walk (s : Int) (v : Value) (xs : List Int) (a b : Int) (w : World)
    (hs : -9223372036854775808 ≤ s ∧ s ≤ 9223372036854775807) (h : IntsAt w v xs) (_ : Fits xs) (_ : -9223372036854775808 ≤ a ∧ a ≤ 9223372036854775807) (_ : -9223372036854775808 ≤ b ∧ b ≤ 9223372036854775807) (hO : OrdersAt w) :
    Calls Tryd.prog 5 #[.agg #[.int .i64 s, v], .int .i64 a, .int .i64 b] w fun e w' => e = .returned (.bool true) ∧ Below w.heap.size w w' := by
  have HB := Lib.hid (below_box w (.cells #[.int .i64 s, v] 24))
  have HI := Lib.hid (h.below HB.out)
  have HO := Lib.hid (hO.below HB.out)
  obtain ⟨va, vc, rfl, _, _, _, _⟩ := id h
  clear h hO
  by_cases hf : solveFault s xs a b = 0
  · obtain ⟨hL, ha0, ha1, hb0, hb1⟩ := solve_ok hf
    have HL := Lib.hid hL
    obtain ⟨n, rfl⟩ := Int.eq_ofNat_of_zero_le (show 0 ≤ s by omega)
    obtain ⟨a, rfl⟩ := Int.eq_ofNat_of_zero_le ha0
    obtain ⟨b, rfl⟩ := Int.eq_ofNat_of_zero_le hb0
    have ha : a < n := by omega
    have hb : b < n := by omega
    obtain ⟨y, hy, ey⟩ := hL.row_has ha (b := (b : Int)) (by omega)
    obtain ⟨x, hx, ex⟩ := hL.col_has ha (b := (b : Int)) (by omega)
    have EY := Lib.hid ey; have EX := Lib.hid ex
    have C1 : Hid (qat n (conjL n xs 1) a b = (y : Int)) := conj_of (k := 1) hL (by omega) ha hy ey
    have C4 : Hid (qat n (conjL n xs 4) b x = (a : Int)) := conj_of (k := 4) hL (by omega) hx ha ex
    have hlo := hL.lo; have hhi := hL.hi
    clear hL hf ey ex
    go_enter Tryd.func5, Tryd.ntmps5
    go_wp2_with fail
    refine (quasiFact_any _).mono ?_
    rintro e w1 ⟨rfl, hbb⟩
    have H1 := Lib.hid hbb; clear hbb
    obtain ⟨hz, k0, k1⟩ := box1 H1.out
    go_wp2_with fail
    refine (left_yes n a b y _ xs _ (HI.out.below H1.out) HL.out ha hb hy EY.out).mono ?_
    rintro e w2 ⟨rfl, hbb⟩
    have H2 := Lib.hid (belowTrans H1.out hbb); clear hbb hz k0 k1
    obtain ⟨hz, k0, k1⟩ := box1 H2.out
    go_wp2_with fail
    refine (right_yes n a b x _ xs _ (HI.out.below H2.out) HL.out ha hb hx EX.out).mono ?_
    rintro e w3 ⟨rfl, hbb⟩
    have H3 := Lib.hid (belowTrans H2.out hbb); clear hbb hz k0 k1
    obtain ⟨hz, k0, k1⟩ := box1 H3.out
    go_wp2_with fail
    refine (conj_yes n 1 _ xs _ (HI.out.below H3.out) HL.out (by omega) (HO.out.below H3.out)).mono ?_
    rintro e w4 ⟨v4, rfl, hI4, hbb⟩
    obtain ⟨a4, c4, rfl, _⟩ := id hI4
    have HB4 := Lib.hid (below_box w4 (.cells #[.int .i64 n, .slice a4 (conjL n xs 1).length c4] 24))
    have HI4 := Lib.hid (hI4.below HB4.out)
    have H4 := Lib.hid (belowTrans (belowTrans H3.out hbb) HB4.out); clear hbb hI4 hz k0 k1
    obtain ⟨hz, k0, k1⟩ := box1 H4.out
    go_wp2_with fail
    refine (conj_yes n 4 _ xs _ (HI.out.below H4.out) HL.out (by omega) (HO.out.below H4.out)).mono ?_
    rintro e w5 ⟨v5, rfl, hI5, hbb⟩
    obtain ⟨a5, c5, rfl, _⟩ := id hI5
    obtain ⟨g1, g2, g3⟩ := box1 hbb
    have HB5 := Lib.hid (below_box w5 (.cells #[.int .i64 n, .slice a5 (conjL n xs 4).length c5] 24))
    have HI5 := Lib.hid (hI5.below HB5.out)
    have HI45 := Lib.hid ((HI4.out.below hbb).below HB5.out)
    have H5 := Lib.hid (belowTrans (belowTrans H4.out hbb) HB5.out); clear hbb hI5 hz k0 k1
    go_wp2_with fail
    refine (at_any n a b _ _ _ HI45.out (by omega) (by rw [conjL_len]; simp) (by omega) (by omega)).mono ?_
    rintro e w6 ⟨rfl, hbb⟩
    have H6 := Lib.hid (belowTrans H5.out hbb)
    obtain ⟨y1, y2, y3⟩ := box1 hbb
    have HI6 := Lib.hid (HI5.out.below hbb)
    clear hbb
    have E1 : Hid (ix (conjL n xs 1) ((a : Int).toNat * (n : Int).toNat + (b : Int).toNat) = (y : Int)) := C1.out
    rw [E1.out]
    go_wp2_with fail
    refine (at_any n b x _ _ _ HI6.out (by omega) (by rw [conjL_len]; simp) (by omega) (by omega)).mono ?_
    rintro e w7 ⟨rfl, hbb⟩
    have H7 := Lib.hid (belowTrans H6.out hbb); clear hbb
    have E2 : Hid (ix (conjL n xs 4) ((b : Int).toNat * (n : Int).toNat + (x : Int).toNat) = (a : Int)) := C4.out
    rw [E2.out]
    go_wp2_with fail
    go_ret
    exact ⟨ret_bool (by simp), belowTrans HB.out H7.out⟩
  · have HF := Lib.hid hf
    have e2 : (solveFault s xs a b != 0) = true := by simpa using hf
    clear hf
    go_enter Tryd.func5, Tryd.ntmps5
    go_wp2_with fail
    refine (quasiFact_any _).mono ?_
    rintro e w1 ⟨rfl, hbb⟩
    have H1 := Lib.hid hbb; clear hbb
    obtain ⟨hz, k0, k1⟩ := box1 H1.out
    go_wp2_with fail
    refine (left_no s a b _ xs _ (HI.out.below H1.out) HF.out).mono ?_
    rintro e w2 ⟨rfl, hbb⟩
    have H2 := Lib.hid (belowTrans H1.out hbb); clear hbb hz k0 k1
    go_wp2_with fail
    go_ret
    exact ⟨rfl, belowTrans HB.out H2.out⟩
end Go.Proofs.YtkmfhnjadpdkeaaDoor
