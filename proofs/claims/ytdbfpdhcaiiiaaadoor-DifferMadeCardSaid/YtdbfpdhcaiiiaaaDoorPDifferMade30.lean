/-
  Contracts: field.Mul, field.Add, field.Root, field.Trace. No condition but that the table of primes reads as it is laid.
-/
import Derived.Test.YtdbfpdhcaiiiaaaDoorPDifferMade28
import Derived.Test.YtdbfpdhcaiiiaaaDoorPDifferMade29
import Derived.Test.YtdbfpdhcaiiiaaaDoorPDifferMade12
namespace Go.Proofs.YtdbfpdhcaiiiaaaDoor
open Go.RowKit

theorem ints_two (w : World) (a b : Int) (t : TypeId) : IntsAt (w.alloc (.cells #[.int .i64 a, .int .i64 b] t)) (.slice (some ⟨w.heap.size, 0, none⟩) 2 2) [a, b] := by
  refine ⟨some ⟨w.heap.size, 0, none⟩, 2, rfl, Nat.le_refl _, by omega, (fun h => by cases h), fun i hi => ⟨w.heap.size, 0, rfl, by simp, fun j hj => ?_⟩⟩
  rw [World.cell?_alloc_new, Nat.zero_add]
  simp only [List.length_cons, List.length_nil] at hj
  rcases j with _ | _ | j
  · rfl
  · rfl
  · omega
theorem ints_one (w : World) (a : Int) (t : TypeId) : IntsAt (w.alloc (.cells #[.int .i64 a] t)) (.slice (some ⟨w.heap.size, 0, none⟩) 1 1) [a] := by
  refine ⟨some ⟨w.heap.size, 0, none⟩, 1, rfl, Nat.le_refl _, by omega, (fun h => by cases h), fun i hi => ⟨w.heap.size, 0, rfl, by simp, fun j hj => ?_⟩⟩
  rw [World.cell?_alloc_new, Nat.zero_add]
  simp only [List.length_cons, List.length_nil] at hj
  obtain rfl : j = 0 := by omega
  rfl
/-- What a field and elements without fault are. -/
theorem with_ok {p d : Int} {low es : List Int} (h : withFault p d low es = 0) : ∃ P D : Nat, p = P ∧ d = D ∧ IsField P D low ∧ ∀ x ∈ es, 0 ≤ x ∧ x < ((P ^ D : Nat) : Int) := by
  unfold withFault at h
  by_cases hf : fieldFault p d low = 0
  · rw [if_neg (by simp [hf])] at h
    obtain ⟨hF, h1, h2⟩ := field_of hf
    obtain ⟨P, rfl⟩ := Int.eq_ofNat_of_zero_le h1
    obtain ⟨D, rfl⟩ := Int.eq_ofNat_of_zero_le h2
    rw [Int.toNat_natCast, Int.toNat_natCast] at hF
    refine ⟨P, D, rfl, rfl, hF, fun x hx => ?_⟩
    cases ha : es.any (outQ (ordQ P D)) with
    | true => rw [ha] at h; cases h
    | false =>
      have := List.any_eq_false.1 ha x hx
      unfold outQ at this
      rw [hF.q] at this
      simp at this
      constructor
      · omega
      · exact this.2
  · rw [if_pos hf] at h; exact absurd h hf
def OpPost (x : Nat) (f : Int) (w : World) (e : Ending) (w' : World) : Prop := e = .returned (.tuple #[.int .i64 (if f = 0 then (x : Int) else 0), .int .i64 f]) ∧ Below w.heap.size w w'
theorem op_bad {x : Nat} {f : Int} {w w' : World} (h : f ≠ 0) (hb : Below w.heap.size w w') : OpPost x f w (.returned (.tuple #[.int .i64 0, .int .i64 f])) w' := ⟨by rw [if_neg h], hb⟩
theorem op_good {x : Nat} {f : Int} {w w' : World} (h : f = 0) (hb : Below w.heap.size w w') : OpPost x f w (.returned (.tuple #[.int .i64 (x : Int), .int .i64 0])) w' := ⟨by rw [h]; rfl, hb⟩

set_option maxRecDepth 100000 in
set_option maxHeartbeats 2000000 in
theorem fmul_any (p d a b : Int) (v : Value) (low : List Int) (w : World) (h : IntsAt w v low) (hP : PrimesAt w) :
    Calls Tryd.prog 28 #[.agg #[.int .i64 p, .int .i64 d, v], .int .i64 a, .int .i64 b] w (OpPost (mulM p.toNat d.toNat low a.toNat b.toNat) (withFault p d low [a, b]) w) := by
  obtain ⟨sa, sc, rfl, _⟩ := id h
  have HB0 := Lib.hid (below_box w (.cells #[.int .i64 p, .int .i64 d, .slice sa low.length sc] 24))
  have HB1 := Lib.hid (belowTrans HB0.out (below_box _ (.cells #[.int .i64 a, .int .i64 b] 3)))
  have hes := ints_two (w.alloc (.cells #[.int .i64 p, .int .i64 d, .slice sa low.length sc] 24)) a b 3
  rw [World.size_alloc] at hes
  have HW := Lib.hid (with_any p d (.slice sa low.length sc) _ low [a, b] _ (h.below HB1.out) hes (hP.below HB1.out))
  have HI := Lib.hid h
  clear h hP hes
  unfold WithPost withRoom at HW
  by_cases hf : withFault p d low [a, b] = 0
  · obtain ⟨P, D, rfl, rfl, hF, hx⟩ := with_ok hf
    have ha := hx a (by simp); have hb := hx b (by simp)
    have hq64 := hF.q64
    obtain ⟨a, rfl⟩ := Int.eq_ofNat_of_zero_le ha.1
    obtain ⟨b, rfl⟩ := Int.eq_ofNat_of_zero_le hb.1
    have ha64 : a < 64 := by omega
    have hb64 : b < 64 := by omega
    rw [if_pos hf] at HW
    unfold roomV at HW
    have HF0 := Lib.hid hf
    rw [hf] at HW
    have HM : Hid (∀ W, Below w.heap.size w W → Calls Tryd.prog 49 #[.agg #[.int .i64 (P : Int), .int .i64 (D : Int), .slice sa low.length sc, .int .i64 (ordQ P D : Nat)], .int .i64 (a : Int), .int .i64 (b : Int)] W fun e w' => e = .returned (.int .i64 (mulM P D low a b : Nat)) ∧ Below W.heap.size W w') := fun W hW => mul_any P D _ _ low a b W (HI.out.below hW) hF ha64 hb64
    rw [Int.toNat_natCast, Int.toNat_natCast, Int.toNat_natCast, Int.toNat_natCast]
    clear hf hx ha hb hq64
    go_enter Tryd.func28, Tryd.ntmps28
    go_wp2_with fail
    refine HW.out.mono ?_
    rintro e w1 ⟨rfl, hb1⟩
    have HBD := Lib.hid (belowTrans (belowTrans HB1.out hb1) (below_box w1 (.cells #[.int .i64 (P : Int), .int .i64 (D : Int), .slice sa low.length sc, .int .i64 (ordQ P D : Nat)] 72)))
    clear hb1
    go_wp2_with fail
    refine (HM.out _ HBD.out).mono ?_
    rintro e w2 ⟨rfl, hb2⟩
    have HB2 := Lib.hid (belowTrans HBD.out hb2)
    clear hb2
    go_wp2_with fail
    go_ret2
    exact op_good HF0.out HB2.out
  · rw [if_neg hf] at HW
    unfold noRoom at HW
    have HF0 := Lib.hid hf
    have e1 : (withFault p d low [a, b] != 0) = true := by simp [hf]
    clear hf
    go_enter Tryd.func28, Tryd.ntmps28
    go_wp2_with fail
    refine HW.out.mono ?_
    rintro e w1 ⟨rfl, hb1⟩
    have HBD := Lib.hid (belowTrans (belowTrans HB1.out hb1) (below_box w1 (.cells #[.int .i64 0, .int .i64 0, .slice none 0 0, .int .i64 0] 72)))
    clear hb1
    go_wp2_with fail
    go_ret2
    exact op_bad HF0.out HBD.out

set_option maxRecDepth 100000 in
set_option maxHeartbeats 2000000 in
theorem fadd_any (p d a b : Int) (v : Value) (low : List Int) (w : World) (h : IntsAt w v low) (hP : PrimesAt w) :
    Calls Tryd.prog 30 #[.agg #[.int .i64 p, .int .i64 d, v], .int .i64 a, .int .i64 b] w (OpPost (addV p.toNat d.toNat a.toNat b.toNat) (withFault p d low [a, b]) w) := by
  obtain ⟨sa, sc, rfl, _⟩ := id h
  have HB0 := Lib.hid (below_box w (.cells #[.int .i64 p, .int .i64 d, .slice sa low.length sc] 24))
  have HB1 := Lib.hid (belowTrans HB0.out (below_box _ (.cells #[.int .i64 a, .int .i64 b] 3)))
  have hes := ints_two (w.alloc (.cells #[.int .i64 p, .int .i64 d, .slice sa low.length sc] 24)) a b 3
  rw [World.size_alloc] at hes
  have HW := Lib.hid (with_any p d (.slice sa low.length sc) _ low [a, b] _ (h.below HB1.out) hes (hP.below HB1.out))
  have HI := Lib.hid h
  clear h hP hes
  unfold WithPost withRoom at HW
  by_cases hf : withFault p d low [a, b] = 0
  · obtain ⟨P, D, rfl, rfl, hF, hx⟩ := with_ok hf
    have ha := hx a (by simp); have hb := hx b (by simp)
    have hq64 := hF.q64
    obtain ⟨a, rfl⟩ := Int.eq_ofNat_of_zero_le ha.1
    obtain ⟨b, rfl⟩ := Int.eq_ofNat_of_zero_le hb.1
    have ha64 : a < 64 := by omega
    have hb64 : b < 64 := by omega
    rw [if_pos hf] at HW
    unfold roomV at HW
    have HF0 := Lib.hid hf
    rw [hf] at HW
    have HM : Hid (∀ W, Below w.heap.size w W → Calls Tryd.prog 50 #[.agg #[.int .i64 (P : Int), .int .i64 (D : Int), .slice sa low.length sc, .int .i64 (ordQ P D : Nat)], .int .i64 (a : Int), .int .i64 (b : Int)] W fun e w' => e = .returned (.int .i64 (addV P D a b : Nat)) ∧ Below W.heap.size W w') := fun W _ => add_any P D _ a b _ W hF.p2 (by have := hF.p61; omega) hF.d1 hF.d6 hF.q64 ha64 hb64 ⟨_, _, _, rfl⟩
    rw [Int.toNat_natCast, Int.toNat_natCast, Int.toNat_natCast, Int.toNat_natCast]
    clear hf hx ha hb hq64
    go_enter Tryd.func30, Tryd.ntmps30
    go_wp2_with fail
    refine HW.out.mono ?_
    rintro e w1 ⟨rfl, hb1⟩
    have HBD := Lib.hid (belowTrans (belowTrans HB1.out hb1) (below_box w1 (.cells #[.int .i64 (P : Int), .int .i64 (D : Int), .slice sa low.length sc, .int .i64 (ordQ P D : Nat)] 72)))
    clear hb1
    go_wp2_with fail
    refine (HM.out _ HBD.out).mono ?_
    rintro e w2 ⟨rfl, hb2⟩
    have HB2 := Lib.hid (belowTrans HBD.out hb2)
    clear hb2
    go_wp2_with fail
    go_ret2
    exact op_good HF0.out HB2.out
  · rw [if_neg hf] at HW
    unfold noRoom at HW
    have HF0 := Lib.hid hf
    have e1 : (withFault p d low [a, b] != 0) = true := by simp [hf]
    clear hf
    go_enter Tryd.func30, Tryd.ntmps30
    go_wp2_with fail
    refine HW.out.mono ?_
    rintro e w1 ⟨rfl, hb1⟩
    have HBD := Lib.hid (belowTrans (belowTrans HB1.out hb1) (below_box w1 (.cells #[.int .i64 0, .int .i64 0, .slice none 0 0, .int .i64 0] 72)))
    clear hb1
    go_wp2_with fail
    go_ret2
    exact op_bad HF0.out HBD.out
end Go.Proofs.YtdbfpdhcaiiiaaaDoor
