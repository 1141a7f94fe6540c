/-
  The walk of LatinMakes: whatever the arguments, it returns true. No condition but that the table of primes reads as it is laid.
-/
import Derived.Test.YtdbfpdhcaiiiaaaDoorFCycOf
import Derived.Test.YtdbfpdhcaiiiaaaDoorSquares
import Derived.Test.YtdbfpdhcaiiiaaaDoorLatinFact
import Derived.Test.YtdbfpdhcaiiiaaaDoorPrimesLaid
namespace Go.Proofs.YtdbfpdhcaiiiaaaDoor
open Go.RowKit

/-- A square and what is wrong. -/
def GSq (s : Int) (xs : List Int) (f : Int) (w : World) (e : Ending) (w' : World) : Prop := ∃ v, e = .returned (.tuple #[.agg #[.int .i64 s, v], .int .i64 f]) ∧ IntsAt w' v xs ∧ FarV w.heap.size v ∧ Below w.heap.size w w'
theorem gsq_no {f : Int} {w w' : World} {e : Ending} (h : NoSq f w e w') : GSq 0 [] f w e w' := ⟨_, h.1, intsAt_nil _, trivial, h.2⟩
theorem gsq_yes {n : Nat} {xs : List Int} {w w' : World} {e : Ending} (h : SqPost n xs w e w') : GSq n xs 0 w e w' := h
theorem cyc_both (n : Int) : ∃ (s : Int) (xs : List Int) (f : Int), (∀ W, Calls Tryd.prog 7 #[.int .i64 n] W (GSq s xs f W)) ∧ ∀ W, Calls Tryd.prog 8 #[.int .i64 n] W (GSq s xs f W) := by
  by_cases h : n < 1 ∨ 8 < n
  · exact ⟨0, [], 1, fun W => (cyclic_no n W h).mono fun e w' he => gsq_no he, fun W => (cycOf_no n W h).mono fun e w' he => gsq_no he⟩
  · obtain ⟨n, rfl⟩ := Int.eq_ofNat_of_zero_le (show 0 ≤ n by omega)
    refine ⟨n, cycTo n (n * n), 0, fun W => (cyclic_yes n W (by omega) (by omega)).mono ?_, fun W => (cycOf_yes n W (by omega) (by omega)).mono fun e w' he => gsq_yes he⟩
    rintro e w' ⟨v, rfl, ho, hb⟩
    exact ⟨v, rfl, ho.intsAt (cyc_fits (by omega)), ho.far (Nat.le_refl _), hb⟩
theorem made_both (p d a : Int) (v : Value) (low : List Int) : ∃ (s : Int) (xs : List Int) (f : Int), (∀ W, IntsAt W v low → PrimesAt W → Calls Tryd.prog 10 #[.agg #[.int .i64 p, .int .i64 d, v], .int .i64 a] W (GSq s xs f W)) ∧
    ∀ W, IntsAt W v low → Calls Tryd.prog 11 #[.agg #[.int .i64 p, .int .i64 d, v], .int .i64 a] W (GSq s xs f W) := by
  by_cases h : madeFault p d low a = 0
  · obtain ⟨P, D, A, rfl, rfl, rfl, hF, h1, h2, h8⟩ := made_of h
    refine ⟨(P ^ D : Nat), madTo (P ^ D) (madC P D low A) (P ^ D * P ^ D), 0, fun W hI hP => (made_yes P D A v low W hI hP hF h1 h2 h8).mono fun e w' he => gsq_yes he, fun W hI => ?_⟩
    have := madeOf_yes P D A v low W hI hF h1 h2 h8
    rw [mad_same hF h8 h2] at this
    exact this.mono fun e w' he => gsq_yes he
  · exact ⟨0, [], madeFault p d low a, fun W hI hP => (made_bad p d a v low W hI hP h).mono fun e w' he => gsq_no he, fun W hI => (madeOf_bad p d a v low W hI h).mono fun e w' he => gsq_no he⟩

/-- What the law holds: its field, two squares. -/
structure LmRel (w wr : World) (p d : Int) (v : Value) (b c : Nat) (s : Int) (u : Value) (t : Int) (x : Value) : Prop where
  fb : FbRel w wr p d v
  lo : w.heap.size < b
  lt : b < c
  sb : Arr wr b 2 (fun j => if j = 0 then .int .i64 s else u)
  tb : Arr wr c 2 (fun j => if j = 0 then .int .i64 t else x)
theorem LmRel.step {w wr W : World} {p d : Int} {v : Value} {b c : Nat} {s t : Int} {u x : Value} (h : LmRel w wr p d v b c s u t x) (hb : Below wr.heap.size wr W) : LmRel w W p d v b c s u t x :=
  ⟨h.fb.step hb, h.lo, h.lt, h.sb.below hb, h.tb.below hb⟩
theorem LmRel.cells {w wr : World} {p d : Int} {v : Value} {b c : Nat} {s t : Int} {u x : Value} (h : LmRel w wr p d v b c s u t x) :
    (wr.cell? ⟨b, 0, none⟩ = some (.int .i64 s) ∧ wr.cell? ⟨b, 1, none⟩ = some u ∧ wr.frozen? ⟨b, 0, none⟩ = false ∧ wr.frozen? ⟨b, 1, none⟩ = false) ∧
    (wr.cell? ⟨c, 0, none⟩ = some (.int .i64 t) ∧ wr.cell? ⟨c, 1, none⟩ = some x ∧ wr.frozen? ⟨c, 0, none⟩ = false ∧ wr.frozen? ⟨c, 1, none⟩ = false) :=
  ⟨⟨h.sb.cell (show 0 < 2 by omega), h.sb.cell (show 1 < 2 by omega), h.sb.free (show 0 < 2 by omega), h.sb.free (show 1 < 2 by omega)⟩, ⟨h.tb.cell (show 0 < 2 by omega), h.tb.cell (show 1 < 2 by omega), h.tb.free (show 0 < 2 by omega), h.tb.free (show 1 < 2 by omega)⟩⟩
theorem two_put {w : World} {b : Nat} {f : Nat → Value} (h : Arr w b 2 f) (p q : Value) : Arr ((w.setCell ⟨b, 0, none⟩ p).setCell ⟨b, 1, none⟩ q) b 2 (fun j => if j = 0 then p else q) :=
  ((h.set (show 0 < 2 by omega) p).set (show 1 < 2 by omega) q).congr fun j hj => by
    rcases j with _ | _ | j
    · rfl
    · rfl
    · omega
theorem LmRel.putS {w wr : World} {p d : Int} {v : Value} {b c : Nat} {s t : Int} {u x : Value} (h : LmRel w wr p d v b c s u t x) (s' : Int) (u' : Value) : LmRel w ((wr.setCell ⟨b, 0, none⟩ (.int .i64 s')).setCell ⟨b, 1, none⟩ u') p d v b c s' u' t x :=
  ⟨⟨(h.fb.bel.setCell (Nat.le_of_lt h.lo) _).setCell (Nat.le_of_lt h.lo) _, (h.fb.fb.setOther (by have := h.lo; show b ≠ _; omega) _).setOther (by have := h.lo; show b ≠ _; omega) _⟩, h.lo, h.lt, two_put h.sb _ _, (h.tb.setOther (by have := h.lt; show b ≠ _; omega) _).setOther (by have := h.lt; show b ≠ _; omega) _⟩
theorem LmRel.putT {w wr : World} {p d : Int} {v : Value} {b c : Nat} {s t : Int} {u x : Value} (h : LmRel w wr p d v b c s u t x) (t' : Int) (x' : Value) : LmRel w ((wr.setCell ⟨c, 0, none⟩ (.int .i64 t')).setCell ⟨c, 1, none⟩ x') p d v b c s u t' x' :=
  ⟨⟨(h.fb.bel.setCell (by have := h.lo; have := h.lt; show _ ≤ c; omega) _).setCell (by have := h.lo; have := h.lt; show _ ≤ c; omega) _, (h.fb.fb.setOther (by have := h.lo; have := h.lt; show c ≠ _; omega) _).setOther (by have := h.lo; have := h.lt; show c ≠ _; omega) _⟩, h.lo, h.lt, (h.sb.setOther (by have := h.lt; show c ≠ _; omega) _).setOther (by have := h.lt; show c ≠ _; omega) _, two_put h.tb _ _⟩
/-- What reads as numbers in the box's world still does when boxes of the call's own are written. -/
theorem IntsAt.put2 {w : World} {v : Value} {xs : List Int} (h : IntsAt w v xs) {B : Nat} (hf : FarV B v) {b : Nat} (hb : b < B) (p q : Value) : IntsAt ((w.setCell ⟨b, 0, none⟩ p).setCell ⟨b, 1, none⟩ q) v xs := (h.setFar hf hb p).setFar hf hb q

set_option maxRecDepth 100000 in
set_option maxHeartbeats 4000000 in
theorem latinMakes_walk (n : Int) (p d : Int) (v : Value) (low : List Int) (a : Int) (w : World) (_hn : -9223372036854775808 ≤ n ∧ n ≤ 9223372036854775807) (_hp : -9223372036854775808 ≤ p ∧ p ≤ 9223372036854775807) (_hd : -9223372036854775808 ≤ d ∧ d ≤ 9223372036854775807) (hI : IntsAt w v low) (_hl : Fits low) (_ha : -9223372036854775808 ≤ a ∧ a ≤ 9223372036854775807) (hP : PrimesAt w) :
    Calls Tryd.prog 3 #[.int .i64 n, .agg #[.int .i64 p, .int .i64 d, v], .int .i64 a] w fun e w' => e = .returned (.bool true) ∧ Below w.heap.size w w' := by
  obtain ⟨sa, sc, rfl, _⟩ := id hI
  obtain ⟨cs, cl, ce, hc1, hc2⟩ := cyc_both n
  obtain ⟨ms, ml, me, hm1, hm2⟩ := made_both p d a (.slice sa low.length sc) low
  have HC1 := Lib.hid hc1; have HC2 := Lib.hid hc2; have HM1 := Lib.hid hm1; have HM2 := Lib.hid hm2
  have HI := Lib.hid hI; have HP := Lib.hid hP
  have HS := Lib.hid (FbRel.begin w p d (.slice sa low.length sc))
  clear hc1 hc2 hm1 hm2 hI hP
  go_enter Tryd.func3, Tryd.ntmps3
  go_wp2_with fail
  refine (HC1.out _).mono ?_
  rintro e w1 ⟨v1, rfl, hi1, _, hb1⟩
  obtain ⟨xa1, xc1, rfl, _⟩ := id hi1
  have HR1 := Lib.hid (HS.out.step hb1)
  have HI1 := Lib.hid (hi1.below (below_box w1 (.cells #[.int .i64 cs, .slice xa1 cl.length xc1] 26)))
  have HA1 := Lib.hid (arr_sq w1 (.int .i64 cs) (.slice xa1 cl.length xc1) 26)
  have HR1b := Lib.hid (HR1.out.step (below_box w1 (.cells #[.int .i64 cs, .slice xa1 cl.length xc1] 26)))
  have HZ1 : Hid (w.heap.size < w1.heap.size) := Arr.lt HR1.out.fb
  clear hi1 hb1
  go_wp2_with fail
  refine (HC2.out _).mono ?_
  rintro e w2 ⟨v2, rfl, hi2, _, hb2⟩
  obtain ⟨xa2, xc2, rfl, _⟩ := id hi2
  have HB2 := Lib.hid (below_box w2 (.cells #[.int .i64 cs, .slice xa2 cl.length xc2] 26))
  have HI1b := Lib.hid ((HI1.out.below hb2).below HB2.out)
  have HI2 := Lib.hid (hi2.below HB2.out)
  have HL : Hid (LmRel w (w2.alloc (.cells #[.int .i64 cs, .slice xa2 cl.length xc2] 26)) p d (.slice sa low.length sc) w1.heap.size w2.heap.size cs (.slice xa1 cl.length xc1) cs (.slice xa2 cl.length xc2)) :=
    ⟨(HR1b.out.step hb2).step HB2.out, HZ1.out, by have := hb2.size; simp at this; omega, (HA1.out.below hb2).below HB2.out, arr_sq w2 _ _ _⟩
  have hz1 : w1.heap.size < w2.heap.size := by have := hb2.size; simp at this; omega
  have q0 := (HA1.out.below hb2).cell (show 0 < 2 by omega)
  have q1 := (HA1.out.below hb2).cell (show 1 < 2 by omega)
  clear hi2 hb2
  go_wp2_with fail
  refine (squares_any cs cs _ _ _ _ _ HI1b.out HI2.out).mono ?_
  rw [eqI_refl]
  rintro e w3 ⟨rfl, hb3⟩
  have HL3 := Lib.hid (HL.out.step hb3)
  clear hb3 q0 q1 HL
  obtain ⟨⟨l0, l1, l2, l3⟩, ⟨m0, m1, m2, m3⟩⟩ := HL3.out.cells
  obtain ⟨f0, f1, f2⟩ := HL3.out.fb.cells
  have hcs : (cs == cs) = true := by simp
  have hce : (ce != ce) = false := by simp
  go_wp2_with fail
  have hz3 : w2.heap.size < w3.heap.size := Arr.lt HL3.out.tb
  have hzw := HZ1.out
  refine (HM1.out w3 (HI.out.below HL3.out.fb.bel) (HP.out.below HL3.out.fb.bel)).mono ?_
  rintro e w4 ⟨v3, rfl, hi3, hf3, hb4⟩
  obtain ⟨xa3, xc3, rfl, _⟩ := id hi3
  have HL4 := Lib.hid (HL3.out.step hb4)
  have HL5 := Lib.hid (HL4.out.putS ms (.slice xa3 ml.length xc3))
  have HI3 := Lib.hid (hi3.put2 hf3 (show w1.heap.size < w3.heap.size by omega) (.int .i64 ms) (.slice xa3 ml.length xc3))
  have HF3 : Hid (FarV w3.heap.size (.slice xa3 ml.length xc3)) := hf3
  clear hi3 hf3 hb4 l0 l1 l2 l3 m0 m1 m2 m3 f0 f1 f2
  obtain ⟨⟨l0, l1, l2, l3⟩, _⟩ := HL4.out.cells
  obtain ⟨f0, f1, f2⟩ := HL4.out.fb.cells
  have n1 : ¬ w.heap.size = w1.heap.size := by omega
  have n2 : ¬ w1.heap.size = w.heap.size := by omega
  go_wp2_with fail
  refine (HM2.out _ (HI.out.below HL5.out.fb.bel)).mono ?_
  rintro e w5 ⟨v4, rfl, hi4, hf4, hb5⟩
  obtain ⟨xa4, xc4, rfl, _⟩ := id hi4
  have HL6 := Lib.hid (HL5.out.step hb5)
  have HL7 := Lib.hid (HL6.out.putT ms (.slice xa4 ml.length xc4))
  have hz5 : w2.heap.size < ((w4.setCell ⟨w1.heap.size, 0, none⟩ (.int .i64 ms)).setCell ⟨w1.heap.size, 1, none⟩ (.slice xa3 ml.length xc3)).heap.size := Arr.lt HL5.out.tb
  have HI4 := Lib.hid (hi4.put2 hf4 hz5 (.int .i64 ms) (.slice xa4 ml.length xc4))
  have HI3b := Lib.hid ((HI3.out.below hb5).put2 HF3.out hz3 (.int .i64 ms) (.slice xa4 ml.length xc4))
  clear hi4 hf4 hb5 hz5 l0 l1 l2 l3 f0 f1 f2 hcs hce
  obtain ⟨⟨l0, l1, _, _⟩, ⟨m0, m1, m2, m3⟩⟩ := HL6.out.cells
  have n3 : ¬ w1.heap.size = w2.heap.size := by omega
  have n4 : ¬ w2.heap.size = w1.heap.size := by omega
  go_wp2_with fail
  refine (squares_any ms ms _ _ _ _ _ HI3b.out HI4.out).mono ?_
  rw [eqI_refl]
  rintro e w6 ⟨rfl, hb6⟩
  have HL8 := Lib.hid (HL7.out.step hb6)
  clear hb6 l0 l1 m0 m1 m2 m3
  have hms : (ms == ms) = true := by simp
  have hme : (me == me) = true := by simp
  go_wp2_with fail
  go_ret
  exact ⟨ret_bool (by simp), HL8.out.fb.bel⟩
end Go.Proofs.YtdbfpdhcaiiiaaaDoor
