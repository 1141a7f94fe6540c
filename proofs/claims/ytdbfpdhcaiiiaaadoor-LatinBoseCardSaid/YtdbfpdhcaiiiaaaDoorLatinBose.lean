/-
  The walk of LatinBose: whatever the arguments, it returns true. No condition but that the table of primes reads as it is laid.
-/
import Derived.Test.YtdbfpdhcaiiiaaaDoorFBose
import Derived.Test.YtdbfpdhcaiiiaaaDoorFMadeC
import Derived.Test.YtdbfpdhcaiiiaaaDoorLatinFact
import Derived.Test.YtdbfpdhcaiiiaaaDoorLatin5
import Derived.Test.YtdbfpdhcaiiiaaaDoorPrimesLaid
import Derived.Test.YtdbfpdhcaiiiaaaDoorFRef3
namespace Go.Proofs.YtdbfpdhcaiiiaaaDoor
open Go.RowKit

/-- What the law leaves. -/
def TruePost (w : World) (e : Ending) (w' : World) : Prop := e = .returned (.bool true) ∧ Below w.heap.size w w'
set_option maxRecDepth 100000 in
set_option maxHeartbeats 4000000 in
theorem latinBose_walk (p d : Int) (v : Value) (low : List Int) (a b : Int) (w : World) (_hp : -9223372036854775808 ≤ p ∧ p ≤ 9223372036854775807) (_hd : -9223372036854775808 ≤ d ∧ d ≤ 9223372036854775807) (hI : IntsAt w v low) (_hl : Fits low) (_ha : -9223372036854775808 ≤ a ∧ a ≤ 9223372036854775807) (_hb : -9223372036854775808 ≤ b ∧ b ≤ 9223372036854775807) (hP : PrimesAt w) :
    Calls Tryd.prog 4 #[.agg #[.int .i64 p, .int .i64 d, v], .int .i64 a, .int .i64 b] w (TruePost w) := by
  obtain ⟨sa, sc, rfl, _⟩ := id hI
  have HS := Lib.hid (FbRel.begin w p d (.slice sa low.length sc))
  have HI := Lib.hid hI; have HP := Lib.hid hP
  clear hI hP
  by_cases h1 : madeFault p d low a = 0
  · obtain ⟨P, D, A, rfl, rfl, rfl, hF, ha1, ha2, h8⟩ := made_of h1
    have HM1 : Hid (∀ W, Below w.heap.size w W → Calls Tryd.prog 10 #[.agg #[.int .i64 (P : Int), .int .i64 (D : Int), .slice sa low.length sc], .int .i64 (A : Int)] W (SqPost (P ^ D) (madSq P D low A) W)) :=
      fun W hW => made_yes P D A _ low W (HI.out.below hW) (HP.out.below hW) hF ha1 ha2 h8
    by_cases h2 : madeFault P D low b = 0
    · obtain ⟨P', D', B, e1, e2, rfl, _, hb1, hb2, _⟩ := made_of h2
      obtain rfl : P = P' := by omega
      obtain rfl : D = D' := by omega
      have HM2 : Hid (∀ W, Below w.heap.size w W → Calls Tryd.prog 10 #[.agg #[.int .i64 (P : Int), .int .i64 (D : Int), .slice sa low.length sc], .int .i64 (B : Int)] W (SqPost (P ^ D) (madSq P D low B) W)) :=
        fun W hW => made_yes P D B _ low W (HI.out.below hW) (HP.out.below hW) hF hb1 hb2 h8
      have l1 := mad_latin hF h8 ha1 ha2
      have l2 := mad_latin hF h8 hb1 hb2
      have ho := mad_orth hF h8 ha1 ha2 hb1 hb2
      have HOf : Hid (orthFault (P ^ D : Nat) (madSq P D low A) (P ^ D : Nat) (madSq P D low B) = 0) := by show _ = _; rw [orthFault, if_neg (fun h => h l1), if_neg (fun h => h l2), if_neg (by simp)]
      have HOr := Lib.hid ho
      have hq2 : 2 ≤ P ^ D := by omega
      have HAB : Hid (((A : Int) != (B : Int)) = decide (A ≠ B)) := by show _ = _; rw [Bool.eq_iff_iff]; simp only [bne_iff_ne, ne_eq, decide_eq_true_eq]; omega
      clear h1 h2 hF l1 l2 ho ha1 ha2 hb1 hb2 h8 e1 e2
      obtain ⟨q, hq⟩ : ∃ q, q = P ^ D := ⟨_, rfl⟩
      generalize madSq P D low A = xs at *
      generalize madSq P D low B = ys at *
      rw [← hq] at HM1 HM2 HOf hq2
      clear hq
      have hq1 : (((q : Nat) : Int) == 1) = false := by simp; omega
      cases hab : decide (A ≠ B)
      all_goals
        rw [hab] at HAB HOr
        have hAB := HAB.out
        clear hab
        go_enter Tryd.func4, Tryd.ntmps4
        go_wp2_with fail
        refine (latinFact_any _).mono ?_
        rintro e w1 ⟨rfl, hb1⟩
        have HR1 := Lib.hid (HS.out.step hb1)
        obtain ⟨f0, f1, f2⟩ := HR1.out.cells
        clear hb1
        go_wp2_with fail
        refine (HM1.out _ HR1.out.bel).mono ?_
        rintro e w2 ⟨v1, rfl, hi1, _, hb2⟩
        obtain ⟨xa, xc, rfl, _⟩ := id hi1
        have HB2 := Lib.hid (below_box w2 (.cells #[.int .i64 (q : Int), .slice xa xs.length xc] 26))
        have HR2 := Lib.hid ((HR1.out.step hb2).step HB2.out)
        have HI1 := Lib.hid (hi1.below HB2.out)
        have HA1 := Lib.hid (arr_sq w2 (.int .i64 (q : Int)) (.slice xa xs.length xc) 26)
        have hzw : w.heap.size < w2.heap.size := Arr.lt (HR1.out.step hb2).fb
        clear f0 f1 f2
        obtain ⟨f0, f1, f2⟩ := (HR1.out.step hb2).cells
        clear hi1 hb2
        go_wp2_with fail
        refine (HM2.out _ HR2.out.bel).mono ?_
        rintro e w3 ⟨v2, rfl, hi2, _, hb3⟩
        obtain ⟨ya, yc, rfl, _⟩ := id hi2
        have HB3 := Lib.hid (below_box w3 (.cells #[.int .i64 (q : Int), .slice ya ys.length yc] 26))
        have HI1b := Lib.hid ((HI1.out.below hb3).below HB3.out)
        have HI2 := Lib.hid (hi2.below HB3.out)
        have HR3 := Lib.hid ((HR2.out.step hb3).step HB3.out)
        have HA3 := Lib.hid ((HA1.out.below hb3).below HB3.out)
        have hz2 : w2.heap.size < w3.heap.size := Arr.lt (HA1.out.below hb3)
        have q0 := (HA1.out.below hb3).cell (show 0 < 2 by omega)
        have q1 := (HA1.out.below hb3).cell (show 1 < 2 by omega)
        clear hi2 hb3 f0 f1 f2
        go_wp2_with fail
        refine (orth_any q q _ _ xs ys _ HI1b.out HI2.out).mono ?_
        rw [HOf.out, HOr.out]
        rintro e w4 ⟨rfl, hb4⟩
        have HR4 := Lib.hid (HR3.out.step hb4)
        have s0 := (HA3.out.below hb4).cell (show 0 < 2 by omega)
        clear hb4 q0 q1
        go_wp2_with fail
        go_ret
        exact ⟨rfl, HR4.out.bel⟩
    · have e1 : (madeFault P D low b != 0) = true := by simp [h2]
      have HM2 : Hid (∀ W, Below w.heap.size w W → Calls Tryd.prog 10 #[.agg #[.int .i64 (P : Int), .int .i64 (D : Int), .slice sa low.length sc], .int .i64 b] W (NoSq (madeFault P D low b) W)) :=
        fun W hW => made_bad P D b _ low W (HI.out.below hW) (HP.out.below hW) h2
      clear h1 h2 hF ha1 ha2 h8
      generalize madeFault P D low b = fb at *
      generalize madSq P D low A = xs at *
      generalize P ^ D = q at *
      go_enter Tryd.func4, Tryd.ntmps4
      go_wp2_with fail
      refine (latinFact_any _).mono ?_
      rintro e w1 ⟨rfl, hb1⟩
      have HR1 := Lib.hid (HS.out.step hb1)
      obtain ⟨f0, f1, f2⟩ := HR1.out.cells
      clear hb1
      go_wp2_with fail
      refine (HM1.out _ HR1.out.bel).mono ?_
      rintro e w2 ⟨v1, rfl, hi1, _, hb2⟩
      obtain ⟨xa, xc, rfl, _⟩ := id hi1
      have HB2 := Lib.hid (below_box w2 (.cells #[.int .i64 (q : Int), .slice xa xs.length xc] 26))
      have HR2 := Lib.hid ((HR1.out.step hb2).step HB2.out)
      have hzw : w.heap.size < w2.heap.size := Arr.lt (HR1.out.step hb2).fb
      clear f0 f1 f2
      obtain ⟨f0, f1, f2⟩ := (HR1.out.step hb2).cells
      clear hi1 hb2
      go_wp2_with fail
      refine (HM2.out _ HR2.out.bel).mono ?_
      intro e w3 hp
      obtain ⟨rfl, hb3⟩ := hp
      have HR3 := Lib.hid ((HR2.out.step hb3).step (below_box w3 (.cells #[.int .i64 0, .slice none 0 0] 26)))
      clear hb3 f0 f1 f2
      go_wp2_with fail
      go_ret
      exact ⟨rfl, HR3.out.bel⟩
  · have e1 : (madeFault p d low a != 0) = true := by simp [h1]
    have HM1 : Hid (∀ W, Below w.heap.size w W → Calls Tryd.prog 10 #[.agg #[.int .i64 p, .int .i64 d, .slice sa low.length sc], .int .i64 a] W (NoSq (madeFault p d low a) W)) :=
      fun W hW => made_bad p d a _ low W (HI.out.below hW) (HP.out.below hW) h1
    clear h1
    generalize madeFault p d low a = fa at *
    go_enter Tryd.func4, Tryd.ntmps4
    go_wp2_with fail
    refine (latinFact_any _).mono ?_
    rintro e w1 ⟨rfl, hb1⟩
    have HR1 := Lib.hid (HS.out.step hb1)
    obtain ⟨f0, f1, f2⟩ := HR1.out.cells
    clear hb1
    go_wp2_with fail
    refine (HM1.out _ HR1.out.bel).mono ?_
    intro e w2 hp
    obtain ⟨rfl, hb2⟩ := hp
    have HR2 := Lib.hid ((HR1.out.step hb2).step (below_box w2 (.cells #[.int .i64 0, .slice none 0 0] 26)))
    clear hb2 f0 f1 f2
    go_wp2_with fail
    go_ret
    exact ⟨rfl, HR2.out.bel⟩
end Go.Proofs.YtdbfpdhcaiiiaaaDoor
