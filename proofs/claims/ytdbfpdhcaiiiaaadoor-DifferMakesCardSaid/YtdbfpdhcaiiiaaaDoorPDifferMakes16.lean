/-
  Contracts: field.Mul, field.Add, field.Root, field.Trace. No condition but that the table of primes reads as it is laid.
  Contracts: field.Root, field.Trace. No condition but that the table of primes reads as it is laid.
  In a region that draws its order: append of one int to a slice of the call's own; Clone of a slice that may be nil. No condition.
  Plain laws of Latin squares: rows and columns hold each number once. No program in sight. No condition.
  Contract: the count of transversals, row by row. No condition.
  Contracts: the reference's look at a square. No condition.
-/
import Derived.Test.YtdbfpdhcaiiiaaaDoorPDifferMakes14
import Derived.Test.YtdbfpdhcaiiiaaaDoorPDifferMakes15
import Derived.Test.YtdbfpdhcaiiiaaaDoorPDifferMakes7
import Derived.BigRegion
import Derived.Deep.AppendLies
import Derived.Deep.RegionLaw
import Derived.Deep.RegionHeld3
import Derived.Test.YtdbfpdhcaiiiaaaDoorPDifferMakes8
import Derived.Test.YtdbfpdhcaiiiaaaDoorPDifferMakes1
import Derived.Test.YtdbfpdhcaiiiaaaDoorRows
import Derived.Test.YtdbfpdhcaiiiaaaDoorPDifferMakes5
namespace Go.Proofs.YtdbfpdhcaiiiaaaDoor
open Go.RowKit

theorem ints_two (w : World) (a b : Int) (t : TypeId) : IntsAt (w.alloc (.cells #[.int .i64 a, .int .i64 b] t)) (.slice (some ⟨w.heap.size, 0, none⟩) 2 2) [a, b] := by
  refine ⟨some ⟨w.heap.size, 0, none⟩, 2, rfl, Nat.le_refl _, by omega, (fun h => by cases h), fun i hi => ⟨w.heap.size, 0, rfl, by simp, fun j hj => ?_⟩⟩
  rw [World.cell?_alloc_new, Nat.zero_add]
  simp only [List.length_cons, List.length_nil] at hj
  rcases j with _ | _ | j
  · rfl
  · rfl
  · omega
theorem ints_one (w : World) (a : Int) (t : TypeId) : IntsAt (w.alloc (.cells #[.int .i64 a] t)) (.slice (some ⟨w.heap.size, 0, none⟩) 1 1) [a] := by
  refine ⟨some ⟨w.heap.size, 0, none⟩, 1, rfl, Nat.le_refl _, by omega, (fun h => by cases h), fun i hi => ⟨w.heap.size, 0, rfl, by simp, fun j hj => ?_⟩⟩
  rw [World.cell?_alloc_new, Nat.zero_add]
  simp only [List.length_cons, List.length_nil] at hj
  obtain rfl : j = 0 := by omega
  rfl
/-- What a field and elements without fault are. -/
theorem with_ok {p d : Int} {low es : List Int} (h : withFault p d low es = 0) : ∃ P D : Nat, p = P ∧ d = D ∧ IsField P D low ∧ ∀ x ∈ es, 0 ≤ x ∧ x < ((P ^ D : Nat) : Int) := by
  unfold withFault at h
  by_cases hf : fieldFault p d low = 0
  · rw [if_neg (by simp [hf])] at h
    obtain ⟨hF, h1, h2⟩ := field_of hf
    obtain ⟨P, rfl⟩ := Int.eq_ofNat_of_zero_le h1
    obtain ⟨D, rfl⟩ := Int.eq_ofNat_of_zero_le h2
    rw [Int.toNat_natCast, Int.toNat_natCast] at hF
    refine ⟨P, D, rfl, rfl, hF, fun x hx => ?_⟩
    cases ha : es.any (outQ (ordQ P D)) with
    | true => rw [ha] at h; cases h
    | false =>
      have := List.any_eq_false.1 ha x hx
      unfold outQ at this
      rw [hF.q] at this
      simp at this
      constructor
      · omega
      · exact this.2
  · rw [if_pos hf] at h; exact absurd h hf
def OpPost (x : Nat) (f : Int) (w : World) (e : Ending) (w' : World) : Prop := e = .returned (.tuple #[.int .i64 (if f = 0 then (x : Int) else 0), .int .i64 f]) ∧ Below w.heap.size w w'
theorem op_bad {x : Nat} {f : Int} {w w' : World} (h : f ≠ 0) (hb : Below w.heap.size w w') : OpPost x f w (.returned (.tuple #[.int .i64 0, .int .i64 f])) w' := ⟨by rw [if_neg h], hb⟩
theorem op_good {x : Nat} {f : Int} {w w' : World} (h : f = 0) (hb : Below w.heap.size w w') : OpPost x f w (.returned (.tuple #[.int .i64 (x : Int), .int .i64 0])) w' := ⟨by rw [h]; rfl, hb⟩

set_option maxRecDepth 100000 in
set_option maxHeartbeats 2000000 in
theorem fmul_any (p d a b : Int) (v : Value) (low : List Int) (w : World) (h : IntsAt w v low) (hP : PrimesAt w) :
    Calls Tryd.prog 28 #[.agg #[.int .i64 p, .int .i64 d, v], .int .i64 a, .int .i64 b] w (OpPost (mulM p.toNat d.toNat low a.toNat b.toNat) (withFault p d low [a, b]) w) := by
  obtain ⟨sa, sc, rfl, _⟩ := id h
  have HB0 := Lib.hid (below_box w (.cells #[.int .i64 p, .int .i64 d, .slice sa low.length sc] 24))
  have HB1 := Lib.hid (belowTrans HB0.out (below_box _ (.cells #[.int .i64 a, .int .i64 b] 3)))
  have hes := ints_two (w.alloc (.cells #[.int .i64 p, .int .i64 d, .slice sa low.length sc] 24)) a b 3
  rw [World.size_alloc] at hes
  have HW := Lib.hid (with_any p d (.slice sa low.length sc) _ low [a, b] _ (h.below HB1.out) hes (hP.below HB1.out))
  have HI := Lib.hid h
  clear h hP hes
  unfold WithPost withRoom at HW
  by_cases hf : withFault p d low [a, b] = 0
  · obtain ⟨P, D, rfl, rfl, hF, hx⟩ := with_ok hf
    have ha := hx a (by simp); have hb := hx b (by simp)
    have hq64 := hF.q64
    obtain ⟨a, rfl⟩ := Int.eq_ofNat_of_zero_le ha.1
    obtain ⟨b, rfl⟩ := Int.eq_ofNat_of_zero_le hb.1
    have ha64 : a < 64 := by omega
    have hb64 : b < 64 := by omega
    rw [if_pos hf] at HW
    unfold roomV at HW
    have HF0 := Lib.hid hf
    rw [hf] at HW
    have HM : Hid (∀ W, Below w.heap.size w W → Calls Tryd.prog 49 #[.agg #[.int .i64 (P : Int), .int .i64 (D : Int), .slice sa low.length sc, .int .i64 (ordQ P D : Nat)], .int .i64 (a : Int), .int .i64 (b : Int)] W fun e w' => e = .returned (.int .i64 (mulM P D low a b : Nat)) ∧ Below W.heap.size W w') := fun W hW => mul_any P D _ _ low a b W (HI.out.below hW) hF ha64 hb64
    rw [Int.toNat_natCast, Int.toNat_natCast, Int.toNat_natCast, Int.toNat_natCast]
    clear hf hx ha hb hq64
    go_enter Tryd.func28, Tryd.ntmps28
    go_wp2_with fail
    refine HW.out.mono ?_
    rintro e w1 ⟨rfl, hb1⟩
    have HBD := Lib.hid (belowTrans (belowTrans HB1.out hb1) (below_box w1 (.cells #[.int .i64 (P : Int), .int .i64 (D : Int), .slice sa low.length sc, .int .i64 (ordQ P D : Nat)] 72)))
    clear hb1
    go_wp2_with fail
    refine (HM.out _ HBD.out).mono ?_
    rintro e w2 ⟨rfl, hb2⟩
    have HB2 := Lib.hid (belowTrans HBD.out hb2)
    clear hb2
    go_wp2_with fail
    go_ret2
    exact op_good HF0.out HB2.out
  · rw [if_neg hf] at HW
    unfold noRoom at HW
    have HF0 := Lib.hid hf
    have e1 : (withFault p d low [a, b] != 0) = true := by simp [hf]
    clear hf
    go_enter Tryd.func28, Tryd.ntmps28
    go_wp2_with fail
    refine HW.out.mono ?_
    rintro e w1 ⟨rfl, hb1⟩
    have HBD := Lib.hid (belowTrans (belowTrans HB1.out hb1) (below_box w1 (.cells #[.int .i64 0, .int .i64 0, .slice none 0 0, .int .i64 0] 72)))
    clear hb1
    go_wp2_with fail
    go_ret2
    exact op_bad HF0.out HBD.out

set_option maxRecDepth 100000 in
set_option maxHeartbeats 2000000 in
theorem fadd_any (p d a b : Int) (v : Value) (low : List Int) (w : World) (h : IntsAt w v low) (hP : PrimesAt w) :
    Calls Tryd.prog 30 #[.agg #[.int .i64 p, .int .i64 d, v], .int .i64 a, .int .i64 b] w (OpPost (addV p.toNat d.toNat a.toNat b.toNat) (withFault p d low [a, b]) w) := by
  obtain ⟨sa, sc, rfl, _⟩ := id h
  have HB0 := Lib.hid (below_box w (.cells #[.int .i64 p, .int .i64 d, .slice sa low.length sc] 24))
  have HB1 := Lib.hid (belowTrans HB0.out (below_box _ (.cells #[.int .i64 a, .int .i64 b] 3)))
  have hes := ints_two (w.alloc (.cells #[.int .i64 p, .int .i64 d, .slice sa low.length sc] 24)) a b 3
  rw [World.size_alloc] at hes
  have HW := Lib.hid (with_any p d (.slice sa low.length sc) _ low [a, b] _ (h.below HB1.out) hes (hP.below HB1.out))
  have HI := Lib.hid h
  clear h hP hes
  unfold WithPost withRoom at HW
  by_cases hf : withFault p d low [a, b] = 0
  · obtain ⟨P, D, rfl, rfl, hF, hx⟩ := with_ok hf
    have ha := hx a (by simp); have hb := hx b (by simp)
    have hq64 := hF.q64
    obtain ⟨a, rfl⟩ := Int.eq_ofNat_of_zero_le ha.1
    obtain ⟨b, rfl⟩ := Int.eq_ofNat_of_zero_le hb.1
    have ha64 : a < 64 := by omega
    have hb64 : b < 64 := by omega
    rw [if_pos hf] at HW
    unfold roomV at HW
    have HF0 := Lib.hid hf
    rw [hf] at HW
    have HM : Hid (∀ W, Below w.heap.size w W → Calls Tryd.prog 50 #[.agg #[.int .i64 (P : Int), .int .i64 (D : Int), .slice sa low.length sc, .int .i64 (ordQ P D : Nat)], .int .i64 (a : Int), .int .i64 (b : Int)] W fun e w' => e = .returned (.int .i64 (addV P D a b : Nat)) ∧ Below W.heap.size W w') := fun W _ => add_any P D _ a b _ W hF.p2 (by have := hF.p61; omega) hF.d1 hF.d6 hF.q64 ha64 hb64 ⟨_, _, _, rfl⟩
    rw [Int.toNat_natCast, Int.toNat_natCast, Int.toNat_natCast, Int.toNat_natCast]
    clear hf hx ha hb hq64
    go_enter Tryd.func30, Tryd.ntmps30
    go_wp2_with fail
    refine HW.out.mono ?_
    rintro e w1 ⟨rfl, hb1⟩
    have HBD := Lib.hid (belowTrans (belowTrans HB1.out hb1) (below_box w1 (.cells #[.int .i64 (P : Int), .int .i64 (D : Int), .slice sa low.length sc, .int .i64 (ordQ P D : Nat)] 72)))
    clear hb1
    go_wp2_with fail
    refine (HM.out _ HBD.out).mono ?_
    rintro e w2 ⟨rfl, hb2⟩
    have HB2 := Lib.hid (belowTrans HBD.out hb2)
    clear hb2
    go_wp2_with fail
    go_ret2
    exact op_good HF0.out HB2.out
  · rw [if_neg hf] at HW
    unfold noRoom at HW
    have HF0 := Lib.hid hf
    have e1 : (withFault p d low [a, b] != 0) = true := by simp [hf]
    clear hf
    go_enter Tryd.func30, Tryd.ntmps30
    go_wp2_with fail
    refine HW.out.mono ?_
    rintro e w1 ⟨rfl, hb1⟩
    have HBD := Lib.hid (belowTrans (belowTrans HB1.out hb1) (below_box w1 (.cells #[.int .i64 0, .int .i64 0, .slice none 0 0, .int .i64 0] 72)))
    clear hb1
    go_wp2_with fail
    go_ret2
    exact op_bad HF0.out HBD.out
end Go.Proofs.YtdbfpdhcaiiiaaaDoor

namespace Go.Proofs.YtdbfpdhcaiiiaaaDoor
open Go.RowKit

set_option maxRecDepth 100000 in
set_option maxHeartbeats 2000000 in
theorem froot_any (p d : Int) (v : Value) (low : List Int) (w : World) (h : IntsAt w v low) (hP : PrimesAt w) :
    Calls Tryd.prog 40 #[.agg #[.int .i64 p, .int .i64 d, v]] w (OpPost (rootN p.toNat d.toNat low) (fieldFault p d low) w) := by
  obtain ⟨sa, sc, rfl, _⟩ := id h
  have HB0 := Lib.hid (below_box w (.cells #[.int .i64 p, .int .i64 d, .slice sa low.length sc] 24))
  have HW := Lib.hid (open_any p d (.slice sa low.length sc) low _ (h.below HB0.out) (hP.below HB0.out))
  have HI := Lib.hid h
  clear h hP
  unfold OpenPost roomOf at HW
  by_cases hf : fieldFault p d low = 0
  · obtain ⟨hF, h1, h2⟩ := field_of hf
    obtain ⟨P, rfl⟩ := Int.eq_ofNat_of_zero_le h1
    obtain ⟨D, rfl⟩ := Int.eq_ofNat_of_zero_le h2
    rw [Int.toNat_natCast, Int.toNat_natCast] at hF ⊢
    have HM : Hid (∀ W, Below w.heap.size w W → Calls Tryd.prog 64 #[.agg #[.int .i64 (P : Int), .int .i64 (D : Int), .slice sa low.length sc, .int .i64 (ordQ P D : Nat)]] W fun e w' => e = .returned (.int .i64 (rootN P D low : Nat)) ∧ Below W.heap.size W w') := fun W hW => by
      have hq := hF.q64
      have h1 := pow_one_le (p := P) (by have := hF.p2; omega) D
      exact root_any P D _ _ _ low W (HI.out.below hW) hF (by rw [hF.q]; exact h1) (by rw [hF.q]; exact hq) (by rw [hF.q]; exact root_some hF)
    rw [if_pos hf] at HW
    unfold roomV at HW
    have HF0 := Lib.hid hf
    rw [hf] at HW
    clear hf h1 h2 hF
    go_enter Tryd.func40, Tryd.ntmps40
    go_wp2_with fail
    refine HW.out.mono ?_
    rintro e w1 ⟨rfl, hb1⟩
    have HBD := Lib.hid (belowTrans (belowTrans HB0.out hb1) (below_box w1 (.cells #[.int .i64 (P : Int), .int .i64 (D : Int), .slice sa low.length sc, .int .i64 (ordQ P D : Nat)] 72)))
    clear hb1
    go_wp2_with fail
    refine (HM.out _ HBD.out).mono ?_
    rintro e w2 ⟨rfl, hb2⟩
    have HB2 := Lib.hid (belowTrans HBD.out hb2)
    clear hb2
    go_wp2_with fail
    go_ret2
    exact op_good HF0.out HB2.out
  · rw [if_neg hf] at HW
    unfold noRoom at HW
    have HF0 := Lib.hid hf
    have e1 : (fieldFault p d low != 0) = true := by simp [hf]
    clear hf
    go_enter Tryd.func40, Tryd.ntmps40
    go_wp2_with fail
    refine HW.out.mono ?_
    rintro e w1 ⟨rfl, hb1⟩
    have HBD := Lib.hid (belowTrans (belowTrans HB0.out hb1) (below_box w1 (.cells #[.int .i64 0, .int .i64 0, .slice none 0 0, .int .i64 0] 72)))
    clear hb1
    go_wp2_with fail
    go_ret2
    exact op_bad HF0.out HBD.out

/-- The trace, as the program sums it. -/
def traS (p d : Nat) (low : List Int) : Nat → Nat → Nat → Nat
  | 0, s, _ => s
  | k + 1, s, a => traS p d low k (addV p d s a) (powS (mulM p d low) 7 1 a p)
/-- What Trace holds: the room of its field. -/
structure TrRel (w wr : World) (p d q br : Nat) (v : Value) : Prop where
  bel : Below w.heap.size w wr
  rm : Arr wr br 4 (four (.int .i64 (p : Int)) (.int .i64 (d : Int)) v (.int .i64 (q : Int)))
theorem TrRel.step {w wr W : World} {p d q br : Nat} {v : Value} (h : TrRel w wr p d q br v) (hb : Below wr.heap.size wr W) : TrRel w W p d q br v := ⟨belowTrans h.bel hb, Arr.below h.rm hb⟩
theorem TrRel.room {w wr : World} {p d q br : Nat} {v : Value} (h : TrRel w wr p d q br v) :
    wr.cell? ⟨br, 0, none⟩ = some (.int .i64 (p : Int)) ∧ wr.cell? ⟨br, 1, none⟩ = some (.int .i64 (d : Int)) ∧ wr.cell? ⟨br, 2, none⟩ = some v ∧ wr.cell? ⟨br, 3, none⟩ = some (.int .i64 (q : Int)) :=
  ⟨h.rm.cell (show 0 < 4 by omega), h.rm.cell (show 1 < 4 by omega), h.rm.cell (show 2 < 4 by omega), h.rm.cell (show 3 < 4 by omega)⟩

theorem tr_ret {w w' : World} {n s : Nat} (h : s = n) (hb : Below w.heap.size w w') : Ending.returned (.tuple #[.int .i64 (s : Int), .int .i64 0]) = .returned (.tuple #[.int .i64 (n : Int), .int .i64 0]) ∧ Below w.heap.size w w' := ⟨by rw [h], hb⟩
set_option maxRecDepth 100000 in
set_option maxHeartbeats 3000000 in
theorem ftrace_ok (P D a : Nat) (v : Value) (low : List Int) (w : World) (h : IntsAt w v low) (hP : PrimesAt w) (hF : IsField P D low) (ha : a < P ^ D) :
    Calls Tryd.prog 41 #[.agg #[.int .i64 P, .int .i64 D, v], .int .i64 a] w fun e w' => e = .returned (.tuple #[.int .i64 (traS P D low D 0 a : Nat), .int .i64 0]) ∧ Below w.heap.size w w' := by
  obtain ⟨sa, sc, rfl, _⟩ := id h
  have HB0 := Lib.hid (below_box w (.cells #[.int .i64 P, .int .i64 D, .slice sa low.length sc] 24))
  have HB1 := Lib.hid (belowTrans HB0.out (below_box _ (.cells #[.int .i64 a] 3)))
  have hes := ints_one (w.alloc (.cells #[.int .i64 P, .int .i64 D, .slice sa low.length sc] 24)) a 3
  rw [World.size_alloc] at hes
  have hw := with_any P D (.slice sa low.length sc) _ low [(a : Int)] _ (h.below HB1.out) hes (hP.below HB1.out)
  have hf : withFault P D low [(a : Int)] = 0 := by
    have hF0 := fault_of hF
    unfold withFault
    rw [if_neg (by simp [hF0]), if_neg]
    rw [List.any_eq_true]
    rintro ⟨x, hx, ho⟩
    simp only [List.mem_cons, List.not_mem_nil, or_false] at hx
    subst hx
    unfold outQ at ho
    rw [hF.q, decide_eq_true_eq] at ho
    omega
  unfold WithPost withRoom at hw
  rw [if_pos hf, hf, hF.q] at hw
  unfold roomV at hw
  have HW := Lib.hid hw
  have HI := Lib.hid h
  have hq64 := hF.q64
  have ha64 : a < 64 := by omega
  have HAdd : Hid (∀ (x y : Nat) W, x < 64 → y < 64 → Calls Tryd.prog 50 #[.agg #[.int .i64 (P : Int), .int .i64 (D : Int), .slice sa low.length sc, .int .i64 (P ^ D : Nat)], .int .i64 (x : Int), .int .i64 (y : Int)] W fun e w' => e = .returned (.int .i64 (addV P D x y : Nat)) ∧ Below W.heap.size W w') :=
    fun x y W hx hy => add_any P D _ x y _ W hF.p2 (by have := hF.p61; omega) hF.d1 hF.d6 hF.q64 hx hy ⟨_, _, _, rfl⟩
  have HPow : Hid (∀ (x : Nat) W, x < 64 → Below w.heap.size w W → Calls Tryd.prog 65 #[.agg #[.int .i64 (P : Int), .int .i64 (D : Int), .slice sa low.length sc, .int .i64 (P ^ D : Nat)], .int .i64 (x : Int), .int .i64 (P : Int)] W fun e w' => e = .returned (.int .i64 (powS (mulM P D low) 7 1 x P : Nat)) ∧ Below W.heap.size W w') :=
    fun x W hx hW => pow_any P D _ _ low x P W (HI.out.below hW) hF hx (by have := hF.p61; omega)
  have HAl : Hid (∀ x y, addV P D x y < 64) := fun x y => by
    have := addV_lt (p := P) (d := D) (a := x) (b := y) (by have := hF.p2; omega)
    omega
  have HPl : Hid (∀ x, powS (mulM P D low) 7 1 x P < 64) := fun x => powS_lt (mulM_lt hF) 7 1 x P (by omega)
  have hd1 := hF.d1; have hd6 := hF.d6
  clear h hP hes hw hf hF ha
  obtain ⟨q, hq⟩ : ∃ q, q = P ^ D := ⟨_, rfl⟩
  rw [← hq] at HW HAdd HPow hq64
  clear hq
  go_enter Tryd.func41, Tryd.ntmps41
  go_wp2_with fail
  refine HW.out.mono ?_
  rintro e w1 ⟨rfl, hb1⟩
  have HT : Hid (TrRel w (w1.alloc (.cells #[.int .i64 (P : Int), .int .i64 (D : Int), .slice sa low.length sc, .int .i64 (q : Int)] 72)) P D q w1.heap.size (.slice sa low.length sc)) :=
    ⟨belowTrans (belowTrans HB1.out hb1) (below_box _ _), four_new w1 _ _ _ _ _⟩
  clear hb1 HW
  go_wp2_with fail
  go_loopw [1, 8, 22] (fun x s u wr => ∃ k x0 s0 : Nat, k ≤ D ∧ u = .int .i64 k ∧ x = .int .i64 x0 ∧ s = .int .i64 s0 ∧ x0 < 64 ∧ s0 < 64 ∧ traS P D low (D - k) s0 x0 = traS P D low D 0 a ∧ TrRel w wr P D q w1.heap.size (.slice sa low.length sc)) (fun _ _ u _ => D - (intOf u).toNat)
  case atStart => exact ⟨0, a, 0, by omega, rfl, rfl, rfl, ha64, by omega, rfl, HT.out⟩
  case round =>
    clear HT
    obtain ⟨k, x, s, hk, rfl, rfl, rfl, hx, hs, htr, hR⟩ := hrel
    have HR := Lib.hid hR; have HTr := Lib.hid htr
    clear hR htr
    obtain ⟨r0, r1, r2, r3⟩ := HR.out.room
    by_cases hlt : k < D
    · have HN : Hid (traS P D low (D - (k + 1)) (addV P D s x) (powS (mulM P D low) 7 1 x P) = traS P D low D 0 a) := by
        show _ = _
        rw [← HTr.out, show D - k = (D - (k + 1)) + 1 by omega, traS]
      have ha1 := HAl.out s x
      have hp1 := HPl.out x
      go_wp2_with fail
      refine (HAdd.out s x wr hs hx).mono ?_
      rintro e w2 ⟨rfl, hb2⟩
      have HR2 := Lib.hid (HR.out.step hb2)
      clear hb2 r0 r1 r2 r3
      obtain ⟨r0, r1, r2, r3⟩ := HR2.out.room
      go_wp2_with fail
      refine (HPow.out x w2 hx HR2.out.bel).mono ?_
      rintro e w3 ⟨rfl, hb3⟩
      have HR3 := Lib.hid (HR2.out.step hb3)
      clear hb3 r0 r1 r2 r3
      generalize addV P D s x = s2 at *
      generalize powS (mulM P D low) 7 1 x P = x2 at *
      go_wp2_with fail
      go_roundw
      case rel => exact ⟨k + 1, x2, s2, by omega, by go_num, rfl, rfl, hp1, ha1, HN.out, HR3.out⟩
      case measure => simp [intOf]; omega
    · obtain rfl : k = D := by omega
      have HZ : Hid (s = traS P k low k 0 a) := by
        show _ = _
        rw [← HTr.out, Nat.sub_self, traS]
      go_wp2_with fail
      go_ret2
      exact tr_ret HZ.out HR.out.bel
end Go.Proofs.YtdbfpdhcaiiiaaaDoor

namespace Go.Proofs.YtdbfpdhcaiiiaaaDoor
open Go.RowKit

theorem keep_cell {W w2 : World} (hb : Below W.heap.size W w2) {b o : Nat} {x : Value} (hlt : b < W.heap.size) (hc : W.cell? ⟨b, o, none⟩ = some x) : w2.cell? ⟨b, o, none⟩ = some x := by
  rw [(bcell hb).1 _ _ hlt]; exact hc
theorem lt_box (w : World) (o : Obj) : w.heap.size < (w.alloc o).heap.size := by simp
theorem le_box {n : Nat} {w : World} (h : n ≤ w.heap.size) (o : Obj) : n ≤ (w.alloc o).heap.size := by simp; omega
set_option maxRecDepth 100000 in
theorem step_ints {ops : Array Oper} {o : Oper} {a : Act} {w : World} {K : Act → World → Prop} {Q : Exit → Act → World → Prop} {E : Prop} (hgd : o.guard = none) (s x : Operand)
    (ho : o.op = .call { callee := .builtin .append, args := #[s, x], argTypes := #[22, 22] }) {base : Nat} {v : Value} {xs : List Int} (hs : a.eval s = v) (hown : Own w base 3 v xs)
    (g : Nat) {y : Int} (hx : a.eval x = .slice (some ⟨g, 0, none⟩) 1 1) (hc : w.cell? ⟨g, 0, none⟩ = some (.int .i64 y)) (hl : xs.length < 1000000000) (hb : base ≤ w.heap.size)
    (h : ∀ v' w', Own w' base 3 v' (xs ++ [y]) → w.grownBy w' v.ownBlock → K (a.put o.dst v') w') : if Region.wanted o (yielded ops a.tmps) = true then Oper.wp Tryd.prog o a w K Q else E := by
  obtain ⟨i0, hi0, hz0, hz1, hz2⟩ := info_parts info_int
  refine step_append_lies w hgd s x 22 ho base 3 i0 _ 1 8 Tryd.underlying22 hi0 hz0 hz1 hz2 rfl (by omega) v xs.length (cellsOf xs) hs hown ⟨g, 0, none⟩ 1 1 [.int .i64 y] hx rfl (news_one hc) (by simp [Value.oneCell'])
    (by omega) (by unfold maxLen; omega) (by omega) hb _ rfl ?_
  intro gg cap w' q1 q2 _ _
  refine h _ w' ?_ q2
  unfold Own
  rw [cellsOf_snoc, List.length_append]
  exact q1

/-- Clone of a slice that holds some, or is nil. -/
def ClonePost (xs : List Int) (w : World) : Ending → World → Prop := fun e w' => ∃ v', e = .returned v' ∧ Own w' w.heap.size 3 v' xs ∧ Below w.heap.size w w'
end Go.Proofs.YtdbfpdhcaiiiaaaDoor

namespace Go.Proofs.YtdbfpdhcaiiiaaaDoor
open Go.RowKit

theorem once_false {n : Nat} {xs : List Int} (h : onceB n xs = true) {i k : Nat} (hk : k < i) (hi : i < xs.length) : clash n xs i k = false := by
  cases e : clash n xs i k
  · rfl
  · rw [once_hit hk hi e] at h; cases h

/-- As many unlike numbers below n as n are all. -/
theorem pigeon : ∀ (n : Nat) (f : Nat → Nat), (∀ i, i < n → f i < n) → (∀ i j, i < n → j < n → f i = f j → i = j) → ∀ b, b < n → ∃ i, i < n ∧ f i = b := by
  intro n
  induction n with
  | zero => intro f _ _ b hb; omega
  | succ n ih =>
    intro f hf hinj b hb
    -- swap values so that f n becomes n
    let g : Nat → Nat := fun i => if f i = n then f n else f i
    have hg : ∀ i, i < n → g i < n := by
      intro i hi
      show (if f i = n then f n else f i) < n
      by_cases e : f i = n
      · rw [if_pos e]
        have h1 := hf n (by omega)
        have h2 : f n ≠ n := fun e2 => by have := hinj i n (by omega) (by omega) (by omega); omega
        omega
      · rw [if_neg e]; have := hf i (by omega); omega
    have hginj : ∀ i j, i < n → j < n → g i = g j → i = j := by
      intro i j hi hj he
      replace he : (if f i = n then f n else f i) = (if f j = n then f n else f j) := he
      by_cases e1 : f i = n
      · by_cases e2 : f j = n
        · exact hinj i j (by omega) (by omega) (by omega)
        · rw [if_pos e1, if_neg e2] at he
          have := hinj n j (by omega) (by omega) he; omega
      · by_cases e2 : f j = n
        · rw [if_neg e1, if_pos e2] at he
          have := hinj i n (by omega) (by omega) he; omega
        · rw [if_neg e1, if_neg e2] at he
          exact hinj i j (by omega) (by omega) he
    by_cases hbn : b = f n
    · exact ⟨n, by omega, hbn.symm⟩
    · by_cases hb2 : b = n
      · -- some i < n has g i = f n, hence f i = n
        have hfn : f n < n := by have := hf n (by omega); omega
        obtain ⟨i, hi, he⟩ := ih g hg hginj (f n) hfn
        replace he : (if f i = n then f n else f i) = f n := he
        by_cases e1 : f i = n
        · exact ⟨i, by omega, by omega⟩
        · rw [if_neg e1] at he
          have := hinj i n (by omega) (by omega) he; omega
      · obtain ⟨i, hi, he⟩ := ih g hg hginj b (by omega)
        replace he : (if f i = n then f n else f i) = b := he
        by_cases e1 : f i = n
        · rw [if_pos e1] at he; omega
        · rw [if_neg e1] at he; exact ⟨i, by omega, he⟩

/-- What stands in row i, column j of a square of side n. -/
def qat (n : Nat) (xs : List Int) (i j : Nat) : Int := ix xs (i * n + j)

theorem place_lt {n i j : Nat} (hi : i < n) (hj : j < n) : i * n + j < n * n := by
  have : (i + 1) * n ≤ n * n := Nat.mul_le_mul (by omega) (Nat.le_refl n)
  rw [Nat.add_mul] at this; omega
theorem place_div {n i j : Nat} (hj : j < n) : dv (i * n + j) n = i := by
  unfold dv; rw [Nat.mul_comm, Nat.mul_add_div (by omega), Nat.div_eq_of_lt hj]; rfl
theorem place_mod {n i j : Nat} (hj : j < n) : md (i * n + j) n = j := by
  unfold md; rw [Nat.mul_comm, Nat.mul_add_mod, Nat.mod_eq_of_lt hj]

section
variable {n : Nat} {xs : List Int}
theorem IsLatin.lenN (h : IsLatin n xs) : xs.length = n * n := by have := h.len; rw [← Int.natCast_mul] at this; omega
theorem IsLatin.cell (h : IsLatin n xs) {i j : Nat} (hi : i < n) (hj : j < n) : 0 ≤ qat n xs i j ∧ qat n xs i j < n := h.rng _ (by rw [h.lenN]; exact place_lt hi hj)

theorem clash_same {i k : Nat} (he : ix xs i = ix xs k) (h : dv i n = dv k n ∨ md i n = md k n) : clash n xs i k = true := by
  unfold clash
  have e3 : ((i : Int) % n == (k : Int) % n) = (md i n == md k n) := by
    rw [Bool.eq_iff_iff]; unfold md; simp only [beq_iff_eq]; omega
  rw [e3]; simp [he, h]

theorem IsLatin.apart (h : IsLatin n xs) {i k : Nat} (hi : i < xs.length) (hk : k < xs.length) (he : ix xs i = ix xs k) (hs : dv i n = dv k n ∨ md i n = md k n) : i = k := by
  have ho : onceB n xs = true := by have := h.one; simpa using this
  rcases Nat.lt_trichotomy i k with hl | rfl | hl
  · have := once_false ho hl hk
    rw [clash_same he.symm (by rcases hs with e | e; exact .inl e.symm; exact .inr e.symm)] at this; cases this
  · rfl
  · have := once_false ho hl hi
    rw [clash_same he hs] at this; cases this

theorem IsLatin.row_inj (h : IsLatin n xs) {i j k : Nat} (hi : i < n) (hj : j < n) (hk : k < n) (he : qat n xs i j = qat n xs i k) : j = k := by
  have := h.apart (by rw [h.lenN]; exact place_lt hi hj) (by rw [h.lenN]; exact place_lt hi hk) he (.inl (by rw [place_div hj, place_div hk]))
  omega
theorem IsLatin.col_inj (h : IsLatin n xs) {i j k : Nat} (hi : i < n) (hj : j < n) (hk : k < n) (he : qat n xs j i = qat n xs k i) : j = k := by
  have := h.apart (by rw [h.lenN]; exact place_lt hj hi) (by rw [h.lenN]; exact place_lt hk hi) he (.inr (by rw [place_mod hi, place_mod hi]))
  have hn : 0 < n := by omega
  exact Nat.eq_of_mul_eq_mul_right hn (by omega)

theorem IsLatin.row_has (h : IsLatin n xs) {i : Nat} (hi : i < n) {b : Int} (hb : 0 ≤ b ∧ b < n) : ∃ j, j < n ∧ qat n xs i j = b := by
  obtain ⟨j, hj, he⟩ := pigeon n (fun j => (qat n xs i j).toNat) (fun j hj => by have := h.cell hi hj; show (qat n xs i j).toNat < n; omega)
    (fun j k hj hk he => by
      have h1 := h.cell hi hj; have h2 := h.cell hi hk
      replace he : (qat n xs i j).toNat = (qat n xs i k).toNat := he
      exact h.row_inj hi hj hk (by omega)) b.toNat (by omega)
  have h1 := h.cell hi hj
  replace he : (qat n xs i j).toNat = b.toNat := he
  exact ⟨j, hj, by omega⟩
theorem IsLatin.col_has (h : IsLatin n xs) {i : Nat} (hi : i < n) {b : Int} (hb : 0 ≤ b ∧ b < n) : ∃ j, j < n ∧ qat n xs j i = b := by
  obtain ⟨j, hj, he⟩ := pigeon n (fun j => (qat n xs j i).toNat) (fun j hj => by have := h.cell hj hi; show (qat n xs j i).toNat < n; omega)
    (fun j k hj hk he => by
      have h1 := h.cell hj hi; have h2 := h.cell hk hi
      replace he : (qat n xs j i).toNat = (qat n xs k i).toNat := he
      exact h.col_inj hi hj hk (by omega)) b.toNat (by omega)
  have h1 := h.cell hj hi
  replace he : (qat n xs j i).toNat = b.toNat := he
  exact ⟨j, hj, by omega⟩
end
end Go.Proofs.YtdbfpdhcaiiiaaaDoor

namespace Go.Proofs.YtdbfpdhcaiiiaaaDoor
open Go.RowKit

def sumTo (f : Nat → Nat) : Nat → Nat
  | 0 => 0
  | k + 1 => sumTo f k + f k
theorem sumTo_le {f : Nat → Nat} {M : Nat} : ∀ k, (∀ i, i < k → f i ≤ M) → sumTo f k ≤ k * M
  | 0, _ => by simp [sumTo]
  | k + 1, h => by
    have h1 := sumTo_le k (fun i hi => h i (by omega))
    have h2 := h k (by omega)
    rw [sumTo, Nat.succ_mul]; omega

/-- How many ways there are to choose l rows more, from a row on, columns and numbers being taken. -/
def transM (n : Nat) (xs : List Int) : Nat → Nat → Nat → Nat → Nat
  | 0, _, _, _ => 1
  | l + 1, r, C, D => sumTo (fun k => if tb C k || tb D (qat n xs r k).toNat then 0 else transM n xs l (r + 1) (sb C k) (sb D (qat n xs r k).toNat)) n
def transF (n : Nat) (xs : List Int) (l r C D k : Nat) : Nat := if tb C k || tb D (qat n xs r k).toNat then 0 else transM n xs l (r + 1) (sb C k) (sb D (qat n xs r k).toNat)
def transTo (n : Nat) (xs : List Int) (l r C D k : Nat) : Nat := sumTo (transF n xs l r C D) k
theorem transM_succ (n : Nat) (xs : List Int) (l r C D : Nat) : transM n xs (l + 1) r C D = transTo n xs l r C D n := rfl
theorem transTo_succ (n : Nat) (xs : List Int) (l r C D k : Nat) : transTo n xs l r C D (k + 1) = transTo n xs l r C D k + transF n xs l r C D k := rfl
theorem transM_le (n : Nat) (xs : List Int) (hn : n ≤ 8) : ∀ l r C D, transM n xs l r C D ≤ 8 ^ l
  | 0, _, _, _ => Nat.le_refl _
  | l + 1, r, C, D => by
    rw [transM_succ]
    have := sumTo_le (f := transF n xs l r C D) (M := 8 ^ l) n (fun i _ => by
      unfold transF; split
      · exact Nat.zero_le _
      · exact transM_le n xs hn _ _ _ _)
    have h2 : n * 8 ^ l ≤ 8 * 8 ^ l := Nat.mul_le_mul hn (Nat.le_refl _)
    have h3 : 8 * 8 ^ l = 8 ^ (l + 1) := by rw [Nat.pow_succ, Nat.mul_comm]
    unfold transTo; omega
theorem transTo_le (n : Nat) (xs : List Int) (hn : n ≤ 8) (l r C D k : Nat) (hl : l ≤ 7) (hk : k ≤ 8) : transTo n xs l r C D k ≤ 16777216 := by
  have h1 := sumTo_le (f := transF n xs l r C D) (M := 8 ^ l) k (fun i _ => by
    unfold transF; split
    · exact Nat.zero_le _
    · exact transM_le n xs hn _ _ _ _)
  have h2 : 8 ^ l ≤ 8 ^ 7 := Nat.pow_le_pow_right (by omega) hl
  have h3 : k * 8 ^ l ≤ 8 * 8 ^ 7 := Nat.mul_le_mul hk h2
  unfold transTo; omega
theorem pow256 {n : Nat} (h : n ≤ 8) : 2 ^ n ≤ 256 := Nat.pow_le_pow_right (show 0 < 2 by omega) h
theorem int_val {a b : Int} (h : a = b) : Value.int .i64 a = Value.int .i64 b := by rw [h]
theorem wrap_mul8 {i n : Nat} (hi : i ≤ 64) (hn : n ≤ 64) : wrap64 ((i : Int) * (n : Int)) = ((i * n : Nat) : Int) := by
  have : i * n ≤ 64 * 64 := Nat.mul_le_mul hi hn
  rw [← Int.natCast_mul]
  generalize i * n = q at *
  exact IntWalk.wrap64_in _ ⟨by omega, by omega⟩

set_option maxHeartbeats 1000000 in
theorem trans1_any (n : Nat) (xs : List Int) (hL : IsLatin n xs) (bn bs bc : Nat) (v : Value) : ∀ (l row C D : Nat) (w : World), row + l = n → IntsAt w v xs → C < 256 → D < 256 →
    w.cell? ⟨bn, 0, none⟩ = some (.int .i64 n) → w.cell? ⟨bs, 1, none⟩ = some v →
    w.cell? ⟨bc, 0, none⟩ = some (.func (.func 56) #[] #[.pointer (some ⟨bn, 0, none⟩), .pointer (some ⟨bs, 0, none⟩), .pointer (some ⟨bc, 0, none⟩)]) →
    Calls Tryd.prog 56 #[.int .i64 row, .int .i64 C, .int .i64 D, .pointer (some ⟨bn, 0, none⟩), .pointer (some ⟨bs, 0, none⟩), .pointer (some ⟨bc, 0, none⟩)] w
      fun e w' => e = .returned (.int .i64 (transM n xs l row C D)) ∧ ∃ nd, w' = w.drewN nd := by
  have hn8 : n ≤ 8 := by have := hL.hi; omega
  have HL := Lib.hid hL; clear hL
  intro l
  induction l with
  | zero =>
    intro row C D w hr _ _ _ hbn _ _
    obtain rfl : row = n := by omega
    go_enter Tryd.func56, Tryd.ntmps56
    go_wp2_with fail
    go_ret
    exact ⟨rfl, 0, rfl⟩
  | succ l ih =>
    intro row C D w hr h hC hD hbn hbs hbc
    have HI := Lib.hid h
    have Hlen := Lib.hid HL.out.lenN
    have IH := Lib.hid ih
    clear ih
    have hrow : row < n := by omega
    obtain ⟨a, c, rfl, h1, h2, _, h3⟩ := h
    have hne : ((row : Int) == (n : Int)) = false := by simp; omega
    rw [transM_succ]
    go_enter Tryd.func56, Tryd.ntmps56
    go_wp2_with fail
    go_loopw [10, 17] (fun s j wr => ∃ k nd : Nat, k ≤ n ∧ s = .int .i64 (transTo n xs l row C D k) ∧ j = .int .i64 k ∧ wr = w.drewN nd) (fun _ j _ => n - (intOf j).toNat)
    case atStart => exact ⟨0, 0, by omega, rfl, rfl, rfl⟩
    case round =>
      obtain ⟨k, nd, hk, rfl, rfl, hwr⟩ := hrel
      have Hwr : Hid (wr = w.drewN nd) := hwr
      have HIr := Lib.hid (show IntsAt wr (.slice a xs.length c) xs by rw [hwr]; exact HI.out)
      have hbn' := hbn; rw [show w.cell? ⟨bn, 0, none⟩ = wr.cell? ⟨bn, 0, none⟩ by rw [hwr]; rfl] at hbn'
      have hbs' := hbs; rw [show w.cell? ⟨bs, 1, none⟩ = wr.cell? ⟨bs, 1, none⟩ by rw [hwr]; rfl] at hbs'
      have hbc' := hbc; rw [show w.cell? ⟨bc, 0, none⟩ = wr.cell? ⟨bc, 0, none⟩ by rw [hwr]; rfl] at hbc'
      clear hwr
      by_cases hlt : k < n
      · have hpl : row * n + k < xs.length := by rw [Hlen.out]; exact place_lt hrow hlt
        obtain ⟨b, o, rfl, hbb, hc⟩ := h3 _ hpl
        have hcell0 := hc _ hpl
        have hxr := HL.out.cell hrow hlt
        obtain ⟨x, hx⟩ : ∃ x : Nat, qat n xs row k = x := Int.eq_ofNat_of_zero_le hxr.1
        rw [hx] at hxr
        have hcell : wr.cell? ⟨b, o + (row * n + k), none⟩ = some (.int .i64 x) := by rw [Hwr.out, ← hx]; exact hcell0
        clear hcell0
        have hx8 : x < n := by omega
        have hF : Hid (transF n xs l row C D k = if tb C k || tb D x then 0 else transM n xs l (row + 1) (sb C k) (sb D x)) := by
          show _ = _; unfold transF; rw [hx, Int.toNat_natCast]
        have hsuc := Lib.hid (transTo_succ n xs l row C D k)
        have hS := transTo_le n xs hn8 l row C D k (by omega) (by omega)
        clear hx hxr hc h3
        have hw := int_val (wrap_mul8 (i := row) (n := n) (by omega) (by omega))
        have hin : row * n ≤ 64 := Nat.mul_le_mul (show row ≤ 8 by omega) (show n ≤ 8 by omega)
        have hnum1 : (C : Nat) < 9223372036854775808 := by omega
        have ht1 := shr_and_zero C k (by omega)
        have ht2 := shr_and_zero D x (by omega)
        generalize row * n = q at *
        cases e1 : tb C k
        · cases e2 : tb D x
          · rw [e1] at ht1; rw [e2] at ht2
            have HF : Hid (transF n xs l row C D k = transM n xs l (row + 1) (sb C k) (sb D x)) := by show _ = _; rw [hF.out, e1, e2]; rfl
            have hT := transM_le n xs hn8 l (row + 1) (sb C k) (sb D x)
            have hT2 : 8 ^ l ≤ 8 ^ 7 := Nat.pow_le_pow_right (by omega) (by omega)
            have hsC : sb C k < 256 := sb_lt (m := 8) hC (by omega)
            have hsD : sb D x < 256 := sb_lt (m := 8) hD (by omega)
            have ho1 := or_raw (c := C) (j := k) (by omega) (by omega)
            have ho2 := or_raw (c := D) (j := x) (by omega) (by omega)
            have hT3 : transM n xs l (row + 1) (sb C k) (sb D x) ≤ 2097152 := by omega
            clear hT hT2 e1 e2
            have Hc : Hid (∀ m, Calls Tryd.prog 56 #[.int .i64 ((row : Int) + 1), .int .i64 (sb C k), .int .i64 (sb D x), .pointer (some ⟨bn, 0, none⟩), .pointer (some ⟨bs, 0, none⟩), .pointer (some ⟨bc, 0, none⟩)] (wr.drewN m)
                fun e w' => e = .returned (.int .i64 (transM n xs l (row + 1) (sb C k) (sb D x))) ∧ ∃ nd, w' = (wr.drewN m).drewN nd) := fun m => by
              have := IH.out (row + 1) (sb C k) (sb D x) (wr.drewN m) (by omega) HIr.out hsC hsD hbn' hbs' hbc'
              rw [Int.natCast_add] at this
              exact this
            clear hsC hsD
            go_wp2_with fail
            go_quiet (exact Calls.quiet_of (Hc.out _))
            clear ht1 ht2 ho1 ho2
            go_wp2
            go_roundw
            case rel => exact ⟨k + 1, nd + nq, by omega, by rw [hsuc.out, HF.out]; go_num, by go_num, by rw [Hwr.out, World.drewN_drewN]⟩
            case measure => simp [intOf]; omega
          · rw [e1] at ht1; rw [e2] at ht2
            have HF : Hid (transF n xs l row C D k = 0) := by show _ = _; rw [hF.out, e1, e2]; rfl
            clear e1 e2
            go_wp2_with fail
            clear ht1 ht2
            go_roundw
            case rel => exact ⟨k + 1, nd, by omega, by rw [hsuc.out, HF.out]; go_num, by go_num, Hwr.out⟩
            case measure => simp [intOf]; omega
        · rw [e1] at ht1
          have HF : Hid (transF n xs l row C D k = 0) := by show _ = _; rw [hF.out, e1]; rfl
          clear e1 ht2
          go_wp2_with fail
          clear ht1
          go_roundw
          case rel => exact ⟨k + 1, nd, by omega, by rw [hsuc.out, HF.out]; go_num, by go_num, Hwr.out⟩
          case measure => simp [intOf]; omega
      · obtain rfl : k = n := by omega
        go_wp2_with fail
        go_ret
        exact ⟨rfl, nd, Hwr.out⟩

end Go.Proofs.YtdbfpdhcaiiiaaaDoor

namespace Go.Proofs.YtdbfpdhcaiiiaaaDoor
open Go.RowKit
end Go.Proofs.YtdbfpdhcaiiiaaaDoor
