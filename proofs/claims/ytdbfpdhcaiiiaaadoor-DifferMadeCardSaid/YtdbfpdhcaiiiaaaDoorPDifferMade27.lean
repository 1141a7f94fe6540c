/-
  Contracts: the methods pow and root of a field's room. No condition.
-/
import Derived.Test.YtdbfpdhcaiiiaaaDoorPDifferMade26
import Derived.Test.YtdbfpdhcaiiiaaaDoorPDifferMade12
namespace Go.Proofs.YtdbfpdhcaiiiaaaDoor
open Go.RowKit

theorem powS_zero (M : Nat → Nat → Nat) (f out a : Nat) : powS M f out a 0 = out := by cases f <;> simp [powS]
theorem powS_pos (M : Nat → Nat → Nat) (f out a : Nat) {n : Nat} (h : 0 < n) (hf : n < 2 ^ f) : ∃ g, f = g + 1 ∧ n / 2 < 2 ^ g ∧ powS M f out a n = powS M g (if n % 2 = 1 then M out a else out) (M a a) (n / 2) := by
  cases f with
  | zero => simp at hf; omega
  | succ g =>
    refine ⟨g, rfl, ?_, ?_⟩
    · rw [Nat.pow_succ] at hf; omega
    · rw [powS, if_neg (by omega)]
theorem powS_lt {M : Nat → Nat → Nat} {q : Nat} (hM : ∀ a b, M a b < q) : ∀ f out a n, out < q → powS M f out a n < q
  | 0, out, _, _, h => h
  | f + 1, out, a, n, h => by
    rw [powS]
    split
    · exact h
    · refine powS_lt hM f _ _ _ ?_
      split
      · exact hM _ _
      · exact h
/-- What a method of a room holds: the room. -/
structure RmRel (w wr : World) (p d q : Nat) (v : Value) : Prop where
  bel : Below w.heap.size w wr
  rm : Arr wr w.heap.size 4 (four (.int .i64 (p : Int)) (.int .i64 (d : Int)) v (.int .i64 (q : Int)))
theorem RmRel.begin (w : World) (p d q : Nat) (v : Value) (T : TypeId) : RmRel w (w.alloc (.cells #[.int .i64 (p : Int), .int .i64 (d : Int), v, .int .i64 (q : Int)] T)) p d q v := ⟨below_box _ _, four_new w _ _ _ _ T⟩
theorem RmRel.step {w wr W : World} {p d q : Nat} {v : Value} (h : RmRel w wr p d q v) (hb : Below wr.heap.size wr W) : RmRel w W p d q v := ⟨belowTrans h.bel hb, Arr.below h.rm hb⟩
theorem RmRel.room {w wr : World} {p d q : Nat} {v : Value} (h : RmRel w wr p d q v) :
    wr.cell? ⟨w.heap.size, 0, none⟩ = some (.int .i64 (p : Int)) ∧ wr.cell? ⟨w.heap.size, 1, none⟩ = some (.int .i64 (d : Int)) ∧ wr.cell? ⟨w.heap.size, 2, none⟩ = some v ∧ wr.cell? ⟨w.heap.size, 3, none⟩ = some (.int .i64 (q : Int)) :=
  ⟨h.rm.cell (show 0 < 4 by omega), h.rm.cell (show 1 < 4 by omega), h.rm.cell (show 2 < 4 by omega), h.rm.cell (show 3 < 4 by omega)⟩

set_option maxRecDepth 100000 in
set_option maxHeartbeats 2000000 in
theorem pow_any (p d q : Nat) (v : Value) (low : List Int) (a n : Nat) (w : World) (hI : IntsAt w v low) (hF : IsField p d low) (ha : a < 64) (hn : n < 128) :
    Calls Tryd.prog 65 #[roomV p d v q, .int .i64 a, .int .i64 n] w fun e w' => e = .returned (.int .i64 (powS (mulM p d low) 7 1 a n : Nat)) ∧ Below w.heap.size w w' := by
  obtain ⟨sa, sc, rfl, _⟩ := id hI
  have HM : Hid (∀ (x y : Nat) (W : World), x < 64 → y < 64 → IntsAt W (.slice sa low.length sc) low → Calls Tryd.prog 49 #[.agg #[.int .i64 (p : Int), .int .i64 (d : Int), .slice sa low.length sc, .int .i64 (q : Int)], .int .i64 x, .int .i64 y] W fun e w' => e = .returned (.int .i64 (mulM p d low x y : Nat)) ∧ Below W.heap.size W w') :=
    fun x y W hx hy hI => mul_any p d q _ low x y W hI hF hx hy
  have HL := Lib.hid (mulM_lt hF)
  have HI := Lib.hid hI
  have HR0 := Lib.hid (RmRel.begin w p d q (.slice sa low.length sc) 72)
  clear hI hF
  unfold roomV
  go_enter Tryd.func65, Tryd.ntmps65
  go_wp2_with fail
  go_loopw [1, 2, 7] (fun s t u wr => ∃ f x m o : Nat, s = .int .i64 x ∧ t = .int .i64 m ∧ u = .int .i64 o ∧ x < 64 ∧ o < 64 ∧ m < 128 ∧ m < 2 ^ f ∧ powS (mulM p d low) f o x m = powS (mulM p d low) 7 1 a n ∧ RmRel w wr p d q (.slice sa low.length sc)) (fun _ t _ _ => (intOf t).toNat)
  case atStart => exact ⟨7, a, n, 1, rfl, rfl, rfl, ha, by omega, hn, hn, rfl, HR0.out⟩
  case round =>
    clear HR0
    obtain ⟨f, x, m, o, rfl, rfl, rfl, hx, ho, hm, hmf, hP, hR⟩ := hrel
    have HR := Lib.hid hR; have HP := Lib.hid hP; have HMF := Lib.hid hmf
    clear hR hP hmf
    obtain ⟨r0, r1, r2, r3⟩ := HR.out.room
    by_cases hlt : 0 < m
    · obtain ⟨g, hg, hg2, hg3⟩ := powS_pos (mulM p d low) f o x hlt HMF.out
      have HG2 := Lib.hid hg2
      have HG3 := Lib.hid (hg3.symm.trans HP.out)
      clear hg hg2 hg3
      have hq2 : m / 2 < m := by omega
      have HI1 := Lib.hid (HI.out.below HR.out.bel)
      by_cases ho2 : m % 2 = 1
      · have e1 : (((m : Nat) : Int) % 2 == 1) = true := by simp; omega
        rw [if_pos ho2] at HG3
        clear ho2
        go_wp2_with fail
        refine (HM.out o x _ ho hx HI1.out).mono ?_
        rintro e w1 ⟨rfl, hb1⟩
        have HR1 := Lib.hid (HR.out.step hb1)
        have HI2 := Lib.hid (HI.out.below HR1.out.bel)
        clear hb1 r0 r1 r2 r3
        obtain ⟨r0, r1, r2, r3⟩ := HR1.out.room
        have hl1 := HL.out o x
        have hl2 := HL.out x x
        go_wp2_with fail
        refine (HM.out x x _ hx hx HI2.out).mono ?_
        rintro e w2 ⟨rfl, hb2⟩
        have HR2 := Lib.hid (HR1.out.step hb2)
        clear hb2 r0 r1 r2 r3
        generalize mulM p d low o x = o2 at *
        generalize mulM p d low x x = x2 at *
        go_wp2_with fail
        go_roundw
        case rel => exact ⟨g, x2, m / 2, o2, rfl, by first | rfl | go_num, rfl, hl2, hl1, by omega, HG2.out, HG3.out, HR2.out⟩
        case measure => simp [intOf]; omega
      · have e1 : (((m : Nat) : Int) % 2 == 1) = false := by simp; omega
        rw [if_neg ho2] at HG3
        clear ho2
        have hl2 := HL.out x x
        go_wp2_with fail
        refine (HM.out x x _ hx hx HI1.out).mono ?_
        rintro e w2 ⟨rfl, hb2⟩
        have HR2 := Lib.hid (HR.out.step hb2)
        clear hb2 r0 r1 r2 r3
        generalize mulM p d low x x = x2 at *
        go_wp2_with fail
        go_roundw
        case rel => exact ⟨g, x2, m / 2, o, rfl, by first | rfl | go_num, rfl, hl2, ho, by omega, HG2.out, HG3.out, HR2.out⟩
        case measure => simp [intOf]; omega
    · have HZ : Hid (powS (mulM p d low) 7 1 a n = o) := by
        show _ = _
        rw [← HP.out]
        obtain rfl : m = 0 := by omega
        exact powS_zero _ _ _ _
      go_wp2_with fail
      go_ret
      exact ⟨ret_int (by rw [HZ.out]), HR.out.bel⟩

set_option maxRecDepth 100000 in
set_option maxHeartbeats 2000000 in
theorem root_any (p d q r : Nat) (v : Value) (low : List Int) (w : World) (hI : IntsAt w v low) (hF : IsField p d low) (hq1 : 1 ≤ q) (hq : q ≤ 64) (hr : rootS (mulM p d low) q 62 1 = some r) :
    Calls Tryd.prog 64 #[roomV p d v q] w fun e w' => e = .returned (.int .i64 (r : Nat)) ∧ Below w.heap.size w w' := by
  obtain ⟨sa, sc, rfl, _⟩ := id hI
  have HM : Hid (∀ (x y : Nat) (W : World), x < 64 → y < 64 → IntsAt W (.slice sa low.length sc) low → Calls Tryd.prog 49 #[.agg #[.int .i64 (p : Int), .int .i64 (d : Int), .slice sa low.length sc, .int .i64 (q : Int)], .int .i64 x, .int .i64 y] W fun e w' => e = .returned (.int .i64 (mulM p d low x y : Nat)) ∧ Below W.heap.size W w') :=
    fun x y W hx hy hI => mul_any p d q _ low x y W hI hF hx hy
  have HL := Lib.hid (mulM_lt hF)
  have HI := Lib.hid hI
  have HR0 := Lib.hid (RmRel.begin w p d q (.slice sa low.length sc) 72)
  have HRt := Lib.hid hr
  clear hI hF hr
  unfold roomV
  go_enter Tryd.func64, Tryd.ntmps64
  go_wp2_with fail
  go_loopw [3, 4, 5] (fun s _ _ wr => ∃ f a : Nat, s = .int .i64 a ∧ 1 ≤ a ∧ a + f = 63 ∧ rootS (mulM p d low) q f a = some r ∧ RmRel w wr p d q (.slice sa low.length sc)) (fun s _ _ _ => 100 - (intOf s).toNat)
  case atStart => exact ⟨62, 1, rfl, by omega, by omega, HRt.out, HR0.out⟩
  case round =>
    clear HR0
    obtain ⟨f, a, rfl, ha1, haf, hP, hR⟩ := hrel
    have HR := Lib.hid hR
    have ha63 : a ≤ 63 := by omega
    cases f with
    | zero => cases hP
    | succ f =>
      rw [rootS] at hP
      cases ho : ordS (mulM p d low) a 64 a 1 with
      | none => rw [ho] at hP; cases hP
      | some k =>
        rw [ho] at hP
        dsimp only at hP
        have HO := Lib.hid ho
        have HP := Lib.hid hP
        clear hR hP ho
        have ha62 : a < 64 := by omega
        have HAf := Lib.hid haf
        clear haf
        go_wp2_with fail
        go_loopw [4, 5] (fun s t wr => ∃ g b m : Nat, s = .int .i64 m ∧ t = .int .i64 b ∧ b < 64 ∧ m + g = 65 ∧ ordS (mulM p d low) a g b m = some k ∧ RmRel w wr p d q (.slice sa low.length sc)) (fun s _ _ => 100 - (intOf s).toNat)
        case atStart => exact ⟨64, a, 1, rfl, rfl, ha62, by omega, HO.out, HR.out⟩
        case round =>
          clear HR
          obtain ⟨g, b, m, rfl, rfl, hb, hmg, hP2, hR⟩ := hrel
          have HR := Lib.hid hR
          have hm65 : m ≤ 65 := by omega
          clear hR
          obtain ⟨r0, r1, r2, r3⟩ := HR.out.room
          cases g with
          | zero => cases hP2
          | succ g =>
            rw [ordS] at hP2
            have HMG := Lib.hid hmg
            clear hmg
            by_cases hstop : b = 1 ∨ b = 0
            · rw [if_pos hstop] at hP2
              obtain rfl : m = k := by simpa using hP2
              clear hP2
              by_cases hmq : m = q - 1
              · have HRA : Hid (a = r) := by
                  show _ = _
                  have := HP.out
                  rw [if_pos hmq] at this; simpa using this
                have e2 : (((m : Nat) : Int) == ((q : Int) - 1)) = true := by simp; omega
                clear hmq
                by_cases hb1 : b = 1
                · have t1 : (((b : Nat) : Int) != 1) = false := by simp; omega
                  clear hstop hb1
                  go_wp2_with fail
                  go_ret
                  exact ⟨ret_int (by rw [HRA.out]), HR.out.bel⟩
                · have t1 : (((b : Nat) : Int) != 1) = true := by simp; omega
                  have t2 : (((b : Nat) : Int) != 0) = false := by simp; omega
                  clear hstop hb1
                  go_wp2_with fail
                  go_ret
                  exact ⟨ret_int (by rw [HRA.out]), HR.out.bel⟩
              · have HRA : Hid (rootS (mulM p d low) q f (a + 1) = some r) := by
                  show _ = _
                  have := HP.out
                  rw [if_neg hmq] at this; exact this
                have e2 : (((m : Nat) : Int) == ((q : Int) - 1)) = false := by simp; omega
                have hAf := HAf.out
                clear hmq
                by_cases hb1 : b = 1
                · have t1 : (((b : Nat) : Int) != 1) = false := by simp; omega
                  clear hstop hb1
                  go_wp2_with fail
                  go_roundw
                  case rel => exact ⟨f, a + 1, by go_num, by omega, by omega, HRA.out, HR.out⟩
                  case measure => simp [intOf]; omega
                · have t1 : (((b : Nat) : Int) != 1) = true := by simp; omega
                  have t2 : (((b : Nat) : Int) != 0) = false := by simp; omega
                  clear hstop hb1
                  go_wp2_with fail
                  go_roundw
                  case rel => exact ⟨f, a + 1, by go_num, by omega, by omega, HRA.out, HR.out⟩
                  case measure => simp [intOf]; omega
            · rw [if_neg hstop] at hP2
              have HP2 := Lib.hid hP2
              have t1 : (((b : Nat) : Int) != 1) = true := by simp; omega
              have t2 : (((b : Nat) : Int) != 0) = true := by simp; omega
              have HI1 := Lib.hid (HI.out.below HR.out.bel)
              have hl := HL.out b a
              clear hP2 hstop
              go_wp2_with fail
              refine (HM.out b a _ hb ha62 HI1.out).mono ?_
              rintro e w1 ⟨rfl, hb1⟩
              have HR1 := Lib.hid (HR.out.step hb1)
              have hMG := HMG.out
              clear hb1 r0 r1 r2 r3
              generalize mulM p d low b a = b2 at *
              go_wp2_with fail
              go_roundw
              case rel => exact ⟨g, b2, m + 1, by go_num, rfl, hl, by omega, HP2.out, HR1.out⟩
              case measure => simp [intOf]; omega
end Go.Proofs.YtdbfpdhcaiiiaaaDoor
