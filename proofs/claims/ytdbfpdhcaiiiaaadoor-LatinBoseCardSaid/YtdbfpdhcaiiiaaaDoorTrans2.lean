/-
  Contract: latin.Transversals. No condition.
-/
import Derived.Test.YtdbfpdhcaiiiaaaDoorTrans
import Derived.Test.YtdbfpdhcaiiiaaaDoorLatin3
import Derived.Laws.EntriesVeiled
namespace Go.Proofs.YtdbfpdhcaiiiaaaDoor
open Go.RowKit

def transFault (side : Int) (xs : List Int) : Int := if latinFault side xs ≠ 0 then latinFault side xs else if 7 < side then 3 else 0
def transCount (side : Int) (xs : List Int) : Nat := if transFault side xs = 0 then transM side.toNat xs side.toNat 0 0 0 else 0

set_option maxHeartbeats 1000000 in
theorem trans_any (side : Int) (v : Value) (xs : List Int) (w : World) (h : IntsAt w v xs) :
    Calls Tryd.prog 35 #[.agg #[.int .i64 side, v]] w fun e w' => e = .returned (.tuple #[.int .i64 (transCount side xs), .int .i64 (transFault side xs)]) ∧ Below w.heap.size w w' := by
  have HB := Lib.hid (below_box w (.cells #[.int .i64 side, v] 26))
  have HI := Lib.hid (h.below HB.out)
  cases e1 : (latinFault side xs != 0)
  · have l0 : latinFault side xs = 0 := by simpa using e1
    have HL := Lib.hid (latin_of l0)
    have L0 := Lib.hid l0
    clear l0
    obtain ⟨n, rfl⟩ := Int.eq_ofNat_of_zero_le (show 0 ≤ side by have := HL.out.lo; omega)
    have hn8 : n ≤ 8 := by have := HL.out.hi; omega
    by_cases h7 : 7 < (n : Int)
    · have Hf : Hid (transFault n xs = 3) := by show _ = _; unfold transFault; rw [if_neg (by simpa using e1), if_pos h7]
      have Hc : Hid (transCount n xs = 0) := by show _ = _; unfold transCount; rw [Hf.out]; rfl
      go_enter Tryd.func35, Tryd.ntmps35
      go_wp2_with fail
      refine (check_any _ _ xs _ HI.out).mono ?_
      rintro e w1 ⟨rfl, hb1⟩
      obtain ⟨hz, k0, k1⟩ := box1 hb1
      go_wp2_with fail
      go_ret2
      exact ⟨ret_tup2 (by rw [Hc.out]; rfl) (by rw [Hf.out]; rfl), belowTrans HB.out (belowTrans hb1 (below_box _ _))⟩
    · have Hf : Hid (transFault n xs = 0) := by show _ = _; unfold transFault; rw [if_neg (by simpa using e1), if_neg h7]
      have Hc : Hid (transCount n xs = transM n xs n 0 0 0) := by show _ = _; unfold transCount; rw [if_pos Hf.out, Int.toNat_natCast]
      go_enter Tryd.func35, Tryd.ntmps35
      go_wp2_with fail
      refine (check_any _ _ xs _ HI.out).mono ?_
      rintro e w1 ⟨rfl, hb1⟩
      obtain ⟨hz, k0, k1⟩ := box1 hb1
      have hbw := belowTrans HB.out hb1
      go_wp2_with fail
      refine (trans1_any n xs HL.out w1.heap.size w.heap.size (w1.heap.size + 1) v n 0 0 0 _ (by omega) (((h.below hbw).below (below_box _ _)).below (below_box _ _)) (by omega) (by omega) ?_ ?_ ?_).mono ?_
      · rw [World.cell?_alloc_old _ _ _ (by simp), World.cell?_alloc_new]; rfl
      · rw [World.cell?_alloc_old _ _ _ (by simp; omega), World.cell?_alloc_old _ _ _ (by simp; omega)]; exact k1
      · have := World.cell?_alloc_new (w1.alloc (.cells #[.int .i64 n] 3)) #[.func (.func 56) #[] #[.pointer (some ⟨w1.heap.size, 0, none⟩), .pointer (some ⟨w.heap.size, 0, none⟩), .pointer (some ⟨w1.heap.size + 1, 0, none⟩)]] 79 0
        rw [World.size_alloc] at this
        exact this
      · rintro e w2 ⟨rfl, nd, rfl⟩
        go_wp2
        go_ret2
        exact ⟨ret_tup2 (by rw [Hc.out]; rfl) (by rw [Hf.out]; rfl), below_drewN (belowTrans hbw (belowTrans (below_box _ _) (below_box _ _))) _⟩
  · have Hf : Hid (transFault side xs = latinFault side xs) := by show _ = _; unfold transFault; rw [if_pos (by simpa using e1)]
    have Hc : Hid (transCount side xs = 0) := by show _ = _; unfold transCount; rw [if_neg (by rw [Hf.out]; simpa using e1)]
    go_enter Tryd.func35, Tryd.ntmps35
    go_wp2_with fail
    refine (check_any _ _ xs _ HI.out).mono ?_
    rintro e w1 ⟨rfl, hb1⟩
    go_wp2_with fail
    go_ret2
    exact ⟨ret_tup2 (by rw [Hc.out]; rfl) (by rw [Hf.out]; rfl), belowTrans HB.out hb1⟩

end Go.Proofs.YtdbfpdhcaiiiaaaDoor
