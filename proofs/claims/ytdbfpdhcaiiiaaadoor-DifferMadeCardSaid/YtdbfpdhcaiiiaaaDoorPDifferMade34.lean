/-
  Contracts: latin.filled at the closure of latin.Cyclic, latin.Cyclic. No condition.
  Contract: latin.Cyclic. No condition.
-/
import Derived.Test.YtdbfpdhcaiiiaaaDoorPDifferMade33
import Derived.Test.YtdbfpdhcaiiiaaaDoorPDifferMade3
import Derived.Test.YtdbfpdhcaiiiaaaDoorPDifferMade7
import Derived.Deep.RegionLaw
namespace Go.Proofs.YtdbfpdhcaiiiaaaDoor
open Go.RowKit

/-- The first m cells of the square that turns. -/
def cycTo (n m : Nat) : List Int := (List.range m).map fun p => (((p / n + p % n) % n : Nat) : Int)

theorem cyc1_any (n i j : Nat) (b : Nat) (w : World) (hn : 1 ≤ n) (hn8 : n ≤ 8) (hi : i < n) (hj : j < n) (hc : w.cell? ⟨b, 0, none⟩ = some (.int .i64 n)) :
    Calls Tryd.prog 27 #[.int .i64 i, .int .i64 j, .pointer (some ⟨b, 0, none⟩)] w fun e w' => e = .returned (.int .i64 (((i + j) % n : Nat) : Int)) ∧ w = w' := by
  have hm0 : ¬ n = 0 := by omega
  go_enter Tryd.func27, Tryd.ntmps27
  go_wp2_with fail
  go_ret
  exact ⟨ret_int (by rw [Int.natCast_emod, Int.natCast_add]), rfl⟩

/-- What stands in memory behind m cells. -/
def CycRel (w wr : World) (n m : Nat) : Prop :=
  Below w.heap.size w wr ∧ w.heap.size + 2 ≤ wr.heap.size ∧ Arr wr w.heap.size 2 (fun j => if j = 0 then .int .i64 0 else .slice none 0 0) ∧
  ∃ v, wr.cell? ⟨w.heap.size + 1, 0, none⟩ = some (.int .i64 n) ∧ wr.cell? ⟨w.heap.size + 1, 1, none⟩ = some v ∧ wr.frozen? ⟨w.heap.size + 1, 1, none⟩ = false ∧ Own wr (w.heap.size + 2) 3 v (cycTo n m)
theorem cycTo_len (n m : Nat) : (cycTo n m).length = m := by simp [cycTo]
theorem cycTo_succ {n i k : Nat} (hk : k < n) : cycTo n (i * n + k + 1) = cycTo n (i * n + k) ++ [(((i + k) % n : Nat) : Int)] := by
  unfold cycTo
  rw [List.range_succ, List.map_append]
  have h1 := place_div (n := n) (i := i) hk
  have h2 := place_mod (n := n) (i := i) hk
  unfold dv at h1; unfold md at h2
  simp only [List.map_cons, List.map_nil, h1, h2]

theorem own_far {w wr w1 : World} {v p q : Value} {o : Obj} (hg : World.grownBy (wr.alloc o).drew w1 v.ownBlock) (hb : ∀ k, v.ownBlock = some k → w.heap.size + 2 ≤ k ∧ k < wr.heap.size) (hz : w.heap.size + 1 < wr.heap.size)
    (k0 : wr.cell? ⟨w.heap.size + 1, 0, none⟩ = some p) (k1 : wr.cell? ⟨w.heap.size + 1, 1, none⟩ = some q) (k2 : wr.frozen? ⟨w.heap.size + 1, 1, none⟩ = false) :
    w1.cell? ⟨w.heap.size + 1, 0, none⟩ = some p ∧ w1.cell? ⟨w.heap.size + 1, 1, none⟩ = some q ∧ w1.frozen? ⟨w.heap.size + 1, 1, none⟩ = false := by
  have hz1 : w.heap.size + 1 < (wr.alloc o).drew.heap.size := by show _ < (wr.alloc o).heap.size; simp; omega
  have f0 := far_cell hg (base := w.heap.size + 2) (b := w.heap.size + 1) (o := 0) (fun k hk => (hb k hk).1) (by omega) hz1
  have f1 := far_cell hg (base := w.heap.size + 2) (b := w.heap.size + 1) (o := 1) (fun k hk => (hb k hk).1) (by omega) hz1
  have c : ∀ j, (wr.alloc o).drew.cell? ⟨w.heap.size + 1, j, none⟩ = wr.cell? ⟨w.heap.size + 1, j, none⟩ := fun j => World.cell?_alloc_old _ _ _ (by simp; omega)
  have fr : (wr.alloc o).drew.frozen? ⟨w.heap.size + 1, 1, none⟩ = wr.frozen? ⟨w.heap.size + 1, 1, none⟩ := World.frozen?_alloc_old _ _ _ (by simp; omega)
  exact ⟨by rw [f0.1, c, k0], by rw [f1.1, c, k1], by rw [f1.2, fr, k2]⟩

theorem cyc_step {w wr w1 : World} {n i k gg cap : Nat} {v : Value} {o : Obj} (hk : k < n) (hB : Below w.heap.size w wr) (hz : w.heap.size + 2 ≤ wr.heap.size)
    (hA : Arr wr w.heap.size 2 (fun j => if j = 0 then .int .i64 0 else .slice none 0 0)) (hb : ∀ k, v.ownBlock = some k → w.heap.size + 2 ≤ k ∧ k < wr.heap.size)
    (hg : World.grownBy (wr.alloc o).drew w1 v.ownBlock)
    (k0 : w1.cell? ⟨w.heap.size + 1, 0, none⟩ = some (.int .i64 n)) (k1 : w1.cell? ⟨w.heap.size + 1, 1, none⟩ = some v) (k2 : w1.frozen? ⟨w.heap.size + 1, 1, none⟩ = false)
    (ho : w1.ownsRow (w.heap.size + 2) 3 1 (.slice (some ⟨gg, 0, none⟩) ((cycTo n (i * n + k)).length + 1) cap) ((cycTo n (i * n + k)).length + 1) (cellsOf (cycTo n (i * n + k)) ++ [.int .i64 (((i + k) % n : Nat) : Int)])) :
    CycRel w (w1.setCell ⟨w.heap.size + 1, 1, none⟩ (.slice (some ⟨gg, 0, none⟩) ((cycTo n (i * n + k)).length + 1) cap)) n (i * n + (k + 1)) := by
  have hsz := hg.size
  have hs2 : (wr.alloc o).drew.heap.size = wr.heap.size + 1 := by show (wr.alloc o).heap.size = _; simp
  have hB2 : Below w.heap.size w w1 := ((hB.alloc hB.size o).drew).grown hg (by have := hB.size; omega) (fun k hk => by have := (hb k hk).1; omega)
  refine ⟨hB2.setCell (Nat.le_succ _) _, by rw [World.size_setCell]; omega, ?_, ?_⟩
  · refine Arr.setOther ?_ (by simp) _
    refine Arr.kept (hA.alloc o).drew (fun o' => (far_cell hg (base := w.heap.size + 2) (fun k hk => (hb k hk).1) (by omega) (by omega)).1) (fun o' => (far_cell hg (base := w.heap.size + 2) (fun k hk => (hb k hk).1) (by omega) (by omega)).2) hsz
  · refine ⟨.slice (some ⟨gg, 0, none⟩) ((cycTo n (i * n + k)).length + 1) cap, ?_, World.cell?_setCell_same _ _ _ k1, by rw [World.frozen?_setCell]; exact k2, ?_⟩
    · rw [World.cell?_setCell_other _ _ _ _ (by simp)]; exact k0
    · refine Own.setFar ?_ (by simp) _
      unfold Own
      rw [show i * n + (k + 1) = i * n + k + 1 from rfl, cycTo_succ hk, cellsOf_snoc, List.length_append]
      exact ho

set_option maxRecDepth 100000 in
set_option maxHeartbeats 1000000 in
theorem filled_cyc (n : Nat) (b : Nat) (w : World) (hn : 1 ≤ n) (hn8 : n ≤ 8) (hb : b < w.heap.size) (hc : w.cell? ⟨b, 0, none⟩ = some (.int .i64 n)) :
    Calls Tryd.prog 26 #[.int .i64 n, .func (.func 27) #[] #[.pointer (some ⟨b, 0, none⟩)]] w fun e w' =>
      ∃ v, e = .returned (.agg #[.int .i64 n, v]) ∧ Own w' (w.heap.size + 2) 3 v (cycTo n (n * n)) ∧ Below w.heap.size w w' := by
  obtain ⟨i0, hi0, hz0, hz1, hz2⟩ := info_parts info_int
  have HC := Lib.hid (fun i j (w' : World) (hi : i < n) (hj : j < n) (hc' : w'.cell? ⟨b, 0, none⟩ = some (.int .i64 n)) => cyc1_any n i j b w' hn hn8 hi hj hc')
  go_enter Tryd.func26, Tryd.ntmps26
  go_wp2_with fail
  go_loopw [11] (fun s wr => ∃ i : Nat, i ≤ n ∧ s = .int .i64 i ∧ CycRel w wr n (i * n)) (fun s _ => n - (intOf s).toNat)
  case atStart =>
    refine ⟨0, by omega, rfl, belowTrans (below_box _ _) (below_box _ _), by simp, ?_, .slice none 0 0, ?_, ?_, ?_, ?_⟩
    · refine Arr.alloc ⟨by simp, fun j hj => ⟨?_, World.frozen?_alloc_new _ _ _ _⟩⟩ _
      rw [World.cell?_alloc_new]
      rcases j with _ | _ | j
      · rfl
      · rfl
      · omega
    · have := World.cell?_alloc_new (w.alloc (.cells #[.int .i64 0, .slice none 0 0] 26)) #[.int .i64 n, .slice none 0 0] 26 0
      rw [World.size_alloc] at this; exact this
    · have := World.cell?_alloc_new (w.alloc (.cells #[.int .i64 0, .slice none 0 0] 26)) #[.int .i64 n, .slice none 0 0] 26 1
      rw [World.size_alloc] at this; exact this
    · have := World.frozen?_alloc_new (w.alloc (.cells #[.int .i64 0, .slice none 0 0] 26)) #[.int .i64 n, .slice none 0 0] 26 1
      rw [World.size_alloc] at this; exact this
    · rw [Nat.zero_mul]; exact own_nil _ _ _
  case round =>
    obtain ⟨i, hi, rfl, hR⟩ := hrel
    have HR := Lib.hid hR; clear hR
    by_cases hlt : i < n
    · go_wp2_with fail
      go_loopw [15] (fun s wr => ∃ k : Nat, k ≤ n ∧ s = .int .i64 k ∧ CycRel w wr n (i * n + k)) (fun s _ => n - (intOf s).toNat)
      case atStart => exact ⟨0, by omega, rfl, HR.out⟩
      case round =>
        clear HR
        obtain ⟨k, hk, rfl, hB, hz, hA, v, k0, k1, k2, ho⟩ := hrel
        have HO := Lib.hid ho; have HA := Lib.hid hA; have HB := Lib.hid hB
        clear ho hA hB
        by_cases hkl : k < n
        · obtain ⟨W, hW⟩ : ∃ W, W = wr := ⟨_, rfl⟩
          have kb : wr.cell? ⟨b, 0, none⟩ = some (.int .i64 n) := by rw [HB.out.cell (p := ⟨b, 0, none⟩) hb]; exact hc
          have hz' : w.heap.size + 1 < wr.heap.size := by omega
          have hbo := HO.out.block
          have HBO := Lib.hid hbo; clear hbo
          have hin : i * n + k < 64 := by
            have := place_lt hlt hkl
            have : n * n ≤ 8 * 8 := Nat.mul_le_mul hn8 hn8
            omega
          clear hW
          go_wp2_with fail
          go_region_law (first
            | (refine step_append_lies _ (by rfl) _ _ _ (by rfl) (w.heap.size + 2) 3 i0 _ 1 8 Tryd.underlying22 hi0 hz0 hz1 hz2 rfl (by omega) v _ _ (by rfl) ((World.ownsRow.alloc HO.out _).drew)
                ⟨wr.heap.size, 0, none⟩ 1 1 [.int .i64 (((i + k) % n : Nat) : Int)] (by rfl) (by rfl) (World.news_of_block (cs := #[.int .i64 (((i + k) % n : Nat) : Int)]) (t := 3) (fr := (0, 0)) (heap_alloc_new wr _)) (by simp [Value.oneCell'])
                (by omega) (by unfold maxLen; rw [cycTo_len]; omega) (by rw [cycTo_len]; omega) (by simp; omega) (wr.heap.size + 1) (by simp) ?_; intro gg cap w1 hown1 hgrow hat hlt1; have ff := own_far hgrow HBO.out hz' k0 k1 k2; obtain ⟨f0, f1, f2⟩ := ff)
            | (go_simp; refine (HC.out i k _ hlt hkl (by exact kb)).mono ?_; rintro e w' ⟨rfl, rfl⟩))
          all_goals
            have HN := Lib.hid (cyc_step hkl HB.out (by omega) HA.out HBO.out hgrow f0 f1 f2 hown1)
            clear hown1 hgrow f0 f1 f2 hat hlt1
            go_wp2
            go_roundw
            case rel => exact ⟨k + 1, by omega, by go_num, HN.out⟩
            case measure => simp [intOf]; omega
        · obtain rfl : k = n := by omega
          have HN : Hid (CycRel w wr k ((i + 1) * k)) := by rw [Nat.add_mul, Nat.one_mul]; exact ⟨HB.out, hz, HA.out, v, k0, k1, k2, HO.out⟩
          go_wp2
          go_roundw
          case rel => exact ⟨i + 1, by omega, by go_num, HN.out⟩
          case measure => simp [intOf]; omega
    · obtain rfl : i = n := by omega
      obtain ⟨hB, hz, hA, v, k0, k1, k2, ho⟩ := HR.out
      obtain ⟨va, vl, vc, rfl⟩ := ho.shape
      have HO := Lib.hid ho; have HB := Lib.hid hB; have HA := Lib.hid hA
      have a0 := hA.cell (show 0 < 2 by omega); have a1 := hA.cell (show 1 < 2 by omega)
      have b0 := hA.free (show 0 < 2 by omega); have b1 := hA.free (show 1 < 2 by omega)
      have hz' : w.heap.size + 1 < wr.heap.size := by omega
      clear hA ho hB
      go_wp2
      refine bodyPost_ret (results_arr1 (p := 4) rfl ((HA.out.set (show 0 < 2 by omega) (.int .i64 i)).set (show 1 < 2 by omega) (.slice va vl vc)) Tryd.underlying26 rfl (by kernel_rfl) rfl) rfl ⟨.slice va vl vc, rfl, ?_, (HB.out.setCell (Nat.le_refl _) _).setCell (Nat.le_refl _) _⟩
      exact (HO.out.setFar (by simp) _).setFar (by simp) _

end Go.Proofs.YtdbfpdhcaiiiaaaDoor

namespace Go.Proofs.YtdbfpdhcaiiiaaaDoor
open Go.RowKit

theorem arr_sq (w : World) (p q : Value) (t : TypeId) : Arr (w.alloc (.cells #[p, q] t)) w.heap.size 2 (fun j => if j = 0 then p else q) := by
  refine ⟨by simp, fun j hj => ⟨?_, World.frozen?_alloc_new _ _ _ _⟩⟩
  rw [World.cell?_alloc_new]
  rcases j with _ | _ | j
  · rfl
  · rfl
  · omega

set_option maxHeartbeats 1000000 in
theorem cyclic_yes (n : Nat) (w : World) (hn : 1 ≤ n) (hn8 : n ≤ 8) :
    Calls Tryd.prog 7 #[.int .i64 n] w fun e w' => ∃ v, e = .returned (.tuple #[.agg #[.int .i64 n, v], .int .i64 0]) ∧ Own w' w.heap.size 3 v (cycTo n (n * n)) ∧ Below w.heap.size w w' := by
  have hs : sideB n = true := by simp [sideB]; omega
  have Hs := Lib.hid (side_any n); rw [hs] at Hs; clear hs
  go_enter Tryd.func7, Tryd.ntmps7
  go_wp2_with fail
  refine (Hs.out _).mono ?_
  rintro e w1 ⟨rfl, rfl⟩
  have hw1 : ((w.alloc (.cells #[.int .i64 n] 3)).alloc (.cells #[.int .i64 0, .slice none 0 0] 26)).cell? ⟨w.heap.size, 0, none⟩ = some (.int .i64 n) := by
    rw [World.cell?_alloc_old _ _ _ (by simp), World.cell?_alloc_new]; rfl
  have hA := arr_sq (w.alloc (.cells #[.int .i64 n] 3)) (.int .i64 0) (.slice none 0 0) 26
  rw [World.size_alloc] at hA
  have HA := Lib.hid hA
  have HC := Lib.hid (filled_cyc n w.heap.size _ hn hn8 (by simp; omega) hw1)
  clear hA hw1
  go_wp2_with fail
  refine HC.out.mono ?_
  rintro e w1 ⟨v, rfl, hI, hb1⟩
  obtain ⟨va, vl, vc, rfl⟩ := hI.shape
  have hA1 := HA.out.below hb1
  have HA1 := Lib.hid hA1
  have HI := Lib.hid hI
  have HB := Lib.hid (belowTrans (belowTrans (below_box w _) (below_box _ _)) hb1)
  have HZ := hb1.size
  simp only [World.size_alloc] at HZ
  have a0 := hA1.cell (show 0 < 2 by omega); have a1 := hA1.cell (show 1 < 2 by omega)
  have b0 := hA1.free (show 0 < 2 by omega); have b1 := hA1.free (show 1 < 2 by omega)
  clear hA1 hI hb1
  go_wp2
  refine bodyPost_ret (results_arrT (p := 2) (u := 3) rfl ((HA1.out.set (show 0 < 2 by omega) (.int .i64 n)).set (show 1 < 2 by omega) (.slice va vl vc)) Tryd.underlying26 rfl (by kernel_rfl) rfl) rfl ⟨.slice va vl vc, rfl, ?_, (HB.out.setCell (Nat.le_succ _) _).setCell (Nat.le_succ _) _⟩
  simp only [World.size_alloc] at HI
  exact ((HI.out.setFar (by simp) _).setFar (by simp) _).base (by omega)

set_option maxHeartbeats 1000000 in
theorem cyclic_no (n : Int) (w : World) (hn : n < 1 ∨ 8 < n) :
    Calls Tryd.prog 7 #[.int .i64 n] w fun e w' => e = .returned (.tuple #[.agg #[.int .i64 0, .slice none 0 0], .int .i64 1]) ∧ Below w.heap.size w w' := by
  have hs : sideB n = false := by simp [sideB]; omega
  have Hs := Lib.hid (side_any n); rw [hs] at Hs; clear hs
  go_enter Tryd.func7, Tryd.ntmps7
  go_wp2_with fail
  refine (Hs.out _).mono ?_
  rintro e w1 ⟨rfl, rfl⟩
  go_wp2_with fail
  have hA := arr_sq (w.alloc (.cells #[.int .i64 n] 3)) (.int .i64 0) (.slice none 0 0) 26
  rw [World.size_alloc] at hA
  refine bodyPost_ret (results_arrT (p := 2) (u := 3) rfl hA Tryd.underlying26 rfl (by kernel_rfl) rfl) rfl ⟨rfl, belowTrans (below_box _ _) (below_box _ _)⟩

end Go.Proofs.YtdbfpdhcaiiiaaaDoor
