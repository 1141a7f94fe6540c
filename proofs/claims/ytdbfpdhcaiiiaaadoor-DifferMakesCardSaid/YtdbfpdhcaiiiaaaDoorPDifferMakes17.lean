/-
  Contracts: the program's look at a square (twice, Check). No condition.
  Contract: latin.Check tells what is wrong with a square. No condition.
  Contract: latin.Transversals. No condition.
  Contracts: latin.filled at the closure of latin.Cyclic, latin.Cyclic. No condition.
  Contract: latin.Cyclic. No condition.
  Contracts: the closure of latin.Made, latin.filled at it. No condition but that the table of primes reads as it is laid.
-/
import Derived.Test.YtdbfpdhcaiiiaaaDoorPDifferMakes16
import Derived.Test.YtdbfpdhcaiiiaaaDoorPDifferMakes3
import Derived.Laws.EntriesVeiled
import Derived.Test.YtdbfpdhcaiiiaaaDoorPDifferMakes1
import Derived.Deep.RegionLaw
import Derived.Test.YtdbfpdhcaiiiaaaDoorPDifferMakes2
namespace Go.Proofs.YtdbfpdhcaiiiaaaDoor
open Go.RowKit

set_option maxHeartbeats 1000000 in
theorem twice_any (v : Value) (xs : List Int) (n : Nat) (w : World) (h : IntsAt w v xs) (hn : 1 ≤ n) (hn' : n ≤ 8) (hx : ∀ k, k < xs.length → 0 ≤ ix xs k ∧ ix xs k < 8) (hl : xs.length ≤ n * 8) :
    Calls Tryd.prog 59 #[.int .i64 n, v] w fun e w' => e = .returned (.bool (!onceB n xs)) ∧ Below w.heap.size w w' := by
  have hI := h
  obtain ⟨a, c, rfl, h1, h2, _, h3⟩ := h
  have Hx := Lib.hid hx; clear hx
  go_enter Tryd.func59, Tryd.ntmps59
  go_wp2
  go_loopw [11] (fun i wr => ∃ k : Nat, k ≤ xs.length ∧ i = .int .i64 k ∧ clashTo n xs k = false ∧ Below w.heap.size w wr ∧ Flags wr w.heap.size 64 (rowSeen n xs k) ∧ Flags wr (w.heap.size + 1) 64 (colSeen n xs k)) (fun i _ => xs.length - (intOf i).toNat)
  case atStart =>
    refine ⟨0, by omega, rfl, rfl, ((Below.refl _ _).alloc (Nat.le_refl _) _).alloc (by simp) _, ?_, ?_⟩
    · exact Arr.alloc (Arr.newOf _ 64 _ _ _ rfl) _
    · exact Arr.newAt _ 64 _ _ _ _ (by simp) rfl
  case round =>
    obtain ⟨k, hk, rfl, hn, hb, hfr, hfc⟩ := hrel
    have Hn := Lib.hid hn; clear hn
    by_cases hlt : k < xs.length
    · obtain ⟨b, o, rfl, hb', hc⟩ := h3 k hlt
      have hcell := hc k hlt
      clear hc h3
      rw [← hb.cell (p := ⟨b, o + k, none⟩) hb'] at hcell
      have hxb := Hx.out k hlt
      have hseen := seen_clash (n := n) k Hx.out hlt k (Nat.le_refl _)
      have Hr : Hid (Flags wr w.heap.size 64 (rowSeen n xs k)) := hfr
      have Hc : Hid (Flags wr (w.heap.size + 1) 64 (colSeen n xs k)) := hfc
      clear hfr hfc
      obtain ⟨x, hxk⟩ : ∃ x : Nat, ix xs k = x := Int.eq_ofNat_of_zero_le hxb.1
      have Hs1 : Hid (∀ j, rowSeen n xs (k + 1) j = (rowSeen n xs k j || dv k n * 8 + x == j)) := fun j => by rw [rowSeen, hxk]; rfl
      have Hs2 : Hid (∀ j, colSeen n xs (k + 1) j = (colSeen n xs k j || md k n * 8 + x == j)) := fun j => by rw [colSeen, hxk]; rfl
      rw [hxk] at hxb hcell hseen
      simp only [Int.toNat_natCast] at hseen
      have Hseen := Lib.hid hseen
      clear hseen hxk
      have hdv : dv k n < 8 := by unfold dv; exact (Nat.div_lt_iff_lt_mul (by omega)).2 (by rw [Nat.mul_comm]; omega)
      have hmd : md k n < 8 := by unfold md; have := Nat.mod_lt k (show 0 < n by omega); omega
      have hq1 := wrap_dv (i := k) (n := n) (by omega)
      have hq2 : ((k : Int) % (n : Int)) = ((md k n : Nat) : Int) := by unfold md; omega
      have r1 : wr.cell? ⟨w.heap.size, dv k n * 8 + x, none⟩ = _ := Arr.cell Hr.out (by omega)
      have r2 : wr.frozen? ⟨w.heap.size, dv k n * 8 + x, none⟩ = _ := Arr.free Hr.out (by omega)
      have c1 : wr.cell? ⟨w.heap.size + 1, md k n * 8 + x, none⟩ = _ := Arr.cell Hc.out (by omega)
      have c2 : wr.frozen? ⟨w.heap.size + 1, md k n * 8 + x, none⟩ = _ := Arr.free Hc.out (by omega)
      cases e1 : rowSeen n xs k (dv k n * 8 + x)
      · cases e2 : colSeen n xs k (md k n * 8 + x)
        · rw [e1] at r1; rw [e2] at c1
          have Hno : Hid (clashRow n xs k k = false) := by rw [← Hseen.out, e1, e2]; rfl
          clear e1 e2
          go_wp2
          go_region
          all_goals
            clear hq1 hq2 r1 r2 c1 c2
            go_wp2
            go_roundw
            case rel =>
              refine ⟨k + 1, by omega, by go_num, by rw [clashTo, Hn.out, Hno.out]; rfl, ?_, ?_, ?_⟩
              · exact ((hb.setCell (Nat.le_refl _) _).setCell (Nat.le_succ _) _).drew
              · exact (Arr.setOther (Arr.congr (Flags.set Hr.out (show dv k n * 8 + x < 64 by omega)) (fun j _ => by rw [Hs1.out j])) (by simp) _).drew
              · exact (Arr.congr (Flags.set (Arr.setOther Hc.out (by simp) _) (show md k n * 8 + x < 64 by omega)) (fun j _ => by rw [Hs2.out j])).drew
            case measure => simp [intOf]; omega
        · rw [e1] at r1; rw [e2] at c1
          have Hno : Hid (clashRow n xs k k = true) := by rw [← Hseen.out, e1, e2]; rfl
          clear e1 e2
          go_wp2
          go_ret
          exact ⟨ret_bool (once_hit2 hlt Hno.out).symm, hb⟩
      · rw [e1] at r1
        have Hno : Hid (clashRow n xs k k = true) := by rw [← Hseen.out, e1]; rfl
        clear e1 c1
        go_wp2
        go_ret
        exact ⟨ret_bool (once_hit2 hlt Hno.out).symm, hb⟩
    · obtain rfl : k = xs.length := by omega
      go_wp2
      go_ret
      exact ⟨ret_bool (by rw [onceB, Hn.out]; rfl), hb⟩

theorem twice_int (v : Value) (xs : List Int) (n : Int) (w : World) (h : IntsAt w v xs) (hn : 1 ≤ n) (hn' : n ≤ 8) (hx : ∀ k, k < xs.length → 0 ≤ ix xs k ∧ ix xs k < 8) (hl : (xs.length : Int) ≤ n * 8) :
    Calls Tryd.prog 59 #[.int .i64 n, v] w fun e w' => e = .returned (.bool (!onceB n.toNat xs)) ∧ Below w.heap.size w w' := by
  obtain ⟨m, rfl⟩ := Int.eq_ofNat_of_zero_le (show 0 ≤ n by omega)
  exact twice_any v xs m w h (by omega) (by omega) hx (by omega)

/-- side -/
def sideB (n : Int) : Bool := decide (1 ≤ n ∧ n ≤ 8)
theorem side_any (n : Int) (w : World) : Calls Tryd.prog 25 #[.int .i64 n] w fun e w' => e = .returned (.bool (sideB n)) ∧ w = w' := by
  by_cases h1 : 1 ≤ n
  · have e1 : decide (1 ≤ n) = true := by simpa using h1
    cases e2 : decide (n ≤ 8)
    all_goals
      have hs : sideB n = decide (n ≤ 8) := by simp [sideB, h1]
      rw [e2] at hs
      have Hs := Lib.hid hs; clear hs
      go_enter Tryd.func25, Tryd.ntmps25
      go_wp2
      go_ret
      exact ⟨ret_bool (by rw [Hs.out]), rfl⟩
  · have hs : sideB n = false := by simp [sideB, h1]
    have Hs := Lib.hid hs; clear hs
    have e1 : decide (1 ≤ n) = false := by simpa using h1
    go_enter Tryd.func25, Tryd.ntmps25
    go_wp2
    go_ret
    exact ⟨ret_bool (by rw [Hs.out]), rfl⟩

/-- The test of one number, as latin.Check's closure makes it. -/
def outB (n x : Int) : Bool := decide (x < 0 ∨ n ≤ x)
theorem outB_neg {n x : Int} (h : x < 0) : outB n x = true := by simp [outB, h]
theorem outB_pos {n x : Int} (h : ¬ x < 0) : outB n x = decide (n ≤ x) := by simp [outB, h]
end Go.Proofs.YtdbfpdhcaiiiaaaDoor

namespace Go.Proofs.YtdbfpdhcaiiiaaaDoor
open Go.RowKit

theorem any_out {side : Int} {xs : List Int} (h : anyB (outB side) xs = false) : ∀ k, k < xs.length → 0 ≤ ix xs k ∧ ix xs k < side := by
  intro k hk
  unfold anyB at h
  rw [List.any_eq_false] at h
  have := h _ (ix_mem hk)
  simp [outB] at this
  omega

end Go.Proofs.YtdbfpdhcaiiiaaaDoor

namespace Go.Proofs.YtdbfpdhcaiiiaaaDoor
open Go.RowKit

def transFault (side : Int) (xs : List Int) : Int := if latinFault side xs ≠ 0 then latinFault side xs else if 7 < side then 3 else 0
def transCount (side : Int) (xs : List Int) : Nat := if transFault side xs = 0 then transM side.toNat xs side.toNat 0 0 0 else 0

end Go.Proofs.YtdbfpdhcaiiiaaaDoor

namespace Go.Proofs.YtdbfpdhcaiiiaaaDoor
open Go.RowKit

/-- The first m cells of the square that turns. -/
def cycTo (n m : Nat) : List Int := (List.range m).map fun p => (((p / n + p % n) % n : Nat) : Int)

theorem cyc1_any (n i j : Nat) (b : Nat) (w : World) (hn : 1 ≤ n) (hn8 : n ≤ 8) (hi : i < n) (hj : j < n) (hc : w.cell? ⟨b, 0, none⟩ = some (.int .i64 n)) :
    Calls Tryd.prog 27 #[.int .i64 i, .int .i64 j, .pointer (some ⟨b, 0, none⟩)] w fun e w' => e = .returned (.int .i64 (((i + j) % n : Nat) : Int)) ∧ w = w' := by
  have hm0 : ¬ n = 0 := by omega
  go_enter Tryd.func27, Tryd.ntmps27
  go_wp2_with fail
  go_ret
  exact ⟨ret_int (by rw [Int.natCast_emod, Int.natCast_add]), rfl⟩

/-- What stands in memory behind m cells. -/
def CycRel (w wr : World) (n m : Nat) : Prop :=
  Below w.heap.size w wr ∧ w.heap.size + 2 ≤ wr.heap.size ∧ Arr wr w.heap.size 2 (fun j => if j = 0 then .int .i64 0 else .slice none 0 0) ∧
  ∃ v, wr.cell? ⟨w.heap.size + 1, 0, none⟩ = some (.int .i64 n) ∧ wr.cell? ⟨w.heap.size + 1, 1, none⟩ = some v ∧ wr.frozen? ⟨w.heap.size + 1, 1, none⟩ = false ∧ Own wr (w.heap.size + 2) 3 v (cycTo n m)
theorem cycTo_len (n m : Nat) : (cycTo n m).length = m := by simp [cycTo]
theorem cycTo_succ {n i k : Nat} (hk : k < n) : cycTo n (i * n + k + 1) = cycTo n (i * n + k) ++ [(((i + k) % n : Nat) : Int)] := by
  unfold cycTo
  rw [List.range_succ, List.map_append]
  have h1 := place_div (n := n) (i := i) hk
  have h2 := place_mod (n := n) (i := i) hk
  unfold dv at h1; unfold md at h2
  simp only [List.map_cons, List.map_nil, h1, h2]

theorem own_far {w wr w1 : World} {v p q : Value} {o : Obj} (hg : World.grownBy (wr.alloc o).drew w1 v.ownBlock) (hb : ∀ k, v.ownBlock = some k → w.heap.size + 2 ≤ k ∧ k < wr.heap.size) (hz : w.heap.size + 1 < wr.heap.size)
    (k0 : wr.cell? ⟨w.heap.size + 1, 0, none⟩ = some p) (k1 : wr.cell? ⟨w.heap.size + 1, 1, none⟩ = some q) (k2 : wr.frozen? ⟨w.heap.size + 1, 1, none⟩ = false) :
    w1.cell? ⟨w.heap.size + 1, 0, none⟩ = some p ∧ w1.cell? ⟨w.heap.size + 1, 1, none⟩ = some q ∧ w1.frozen? ⟨w.heap.size + 1, 1, none⟩ = false := by
  have hz1 : w.heap.size + 1 < (wr.alloc o).drew.heap.size := by show _ < (wr.alloc o).heap.size; simp; omega
  have f0 := far_cell hg (base := w.heap.size + 2) (b := w.heap.size + 1) (o := 0) (fun k hk => (hb k hk).1) (by omega) hz1
  have f1 := far_cell hg (base := w.heap.size + 2) (b := w.heap.size + 1) (o := 1) (fun k hk => (hb k hk).1) (by omega) hz1
  have c : ∀ j, (wr.alloc o).drew.cell? ⟨w.heap.size + 1, j, none⟩ = wr.cell? ⟨w.heap.size + 1, j, none⟩ := fun j => World.cell?_alloc_old _ _ _ (by simp; omega)
  have fr : (wr.alloc o).drew.frozen? ⟨w.heap.size + 1, 1, none⟩ = wr.frozen? ⟨w.heap.size + 1, 1, none⟩ := World.frozen?_alloc_old _ _ _ (by simp; omega)
  exact ⟨by rw [f0.1, c, k0], by rw [f1.1, c, k1], by rw [f1.2, fr, k2]⟩

theorem cyc_step {w wr w1 : World} {n i k gg cap : Nat} {v : Value} {o : Obj} (hk : k < n) (hB : Below w.heap.size w wr) (hz : w.heap.size + 2 ≤ wr.heap.size)
    (hA : Arr wr w.heap.size 2 (fun j => if j = 0 then .int .i64 0 else .slice none 0 0)) (hb : ∀ k, v.ownBlock = some k → w.heap.size + 2 ≤ k ∧ k < wr.heap.size)
    (hg : World.grownBy (wr.alloc o).drew w1 v.ownBlock)
    (k0 : w1.cell? ⟨w.heap.size + 1, 0, none⟩ = some (.int .i64 n)) (k1 : w1.cell? ⟨w.heap.size + 1, 1, none⟩ = some v) (k2 : w1.frozen? ⟨w.heap.size + 1, 1, none⟩ = false)
    (ho : w1.ownsRow (w.heap.size + 2) 3 1 (.slice (some ⟨gg, 0, none⟩) ((cycTo n (i * n + k)).length + 1) cap) ((cycTo n (i * n + k)).length + 1) (cellsOf (cycTo n (i * n + k)) ++ [.int .i64 (((i + k) % n : Nat) : Int)])) :
    CycRel w (w1.setCell ⟨w.heap.size + 1, 1, none⟩ (.slice (some ⟨gg, 0, none⟩) ((cycTo n (i * n + k)).length + 1) cap)) n (i * n + (k + 1)) := by
  have hsz := hg.size
  have hs2 : (wr.alloc o).drew.heap.size = wr.heap.size + 1 := by show (wr.alloc o).heap.size = _; simp
  have hB2 : Below w.heap.size w w1 := ((hB.alloc hB.size o).drew).grown hg (by have := hB.size; omega) (fun k hk => by have := (hb k hk).1; omega)
  refine ⟨hB2.setCell (Nat.le_succ _) _, by rw [World.size_setCell]; omega, ?_, ?_⟩
  · refine Arr.setOther ?_ (by simp) _
    refine Arr.kept (hA.alloc o).drew (fun o' => (far_cell hg (base := w.heap.size + 2) (fun k hk => (hb k hk).1) (by omega) (by omega)).1) (fun o' => (far_cell hg (base := w.heap.size + 2) (fun k hk => (hb k hk).1) (by omega) (by omega)).2) hsz
  · refine ⟨.slice (some ⟨gg, 0, none⟩) ((cycTo n (i * n + k)).length + 1) cap, ?_, World.cell?_setCell_same _ _ _ k1, by rw [World.frozen?_setCell]; exact k2, ?_⟩
    · rw [World.cell?_setCell_other _ _ _ _ (by simp)]; exact k0
    · refine Own.setFar ?_ (by simp) _
      unfold Own
      rw [show i * n + (k + 1) = i * n + k + 1 from rfl, cycTo_succ hk, cellsOf_snoc, List.length_append]
      exact ho

set_option maxRecDepth 100000 in
set_option maxHeartbeats 1000000 in
theorem filled_cyc (n : Nat) (b : Nat) (w : World) (hn : 1 ≤ n) (hn8 : n ≤ 8) (hb : b < w.heap.size) (hc : w.cell? ⟨b, 0, none⟩ = some (.int .i64 n)) :
    Calls Tryd.prog 26 #[.int .i64 n, .func (.func 27) #[] #[.pointer (some ⟨b, 0, none⟩)]] w fun e w' =>
      ∃ v, e = .returned (.agg #[.int .i64 n, v]) ∧ Own w' (w.heap.size + 2) 3 v (cycTo n (n * n)) ∧ Below w.heap.size w w' := by
  obtain ⟨i0, hi0, hz0, hz1, hz2⟩ := info_parts info_int
  have HC := Lib.hid (fun i j (w' : World) (hi : i < n) (hj : j < n) (hc' : w'.cell? ⟨b, 0, none⟩ = some (.int .i64 n)) => cyc1_any n i j b w' hn hn8 hi hj hc')
  go_enter Tryd.func26, Tryd.ntmps26
  go_wp2_with fail
  go_loopw [11] (fun s wr => ∃ i : Nat, i ≤ n ∧ s = .int .i64 i ∧ CycRel w wr n (i * n)) (fun s _ => n - (intOf s).toNat)
  case atStart =>
    refine ⟨0, by omega, rfl, belowTrans (below_box _ _) (below_box _ _), by simp, ?_, .slice none 0 0, ?_, ?_, ?_, ?_⟩
    · refine Arr.alloc ⟨by simp, fun j hj => ⟨?_, World.frozen?_alloc_new _ _ _ _⟩⟩ _
      rw [World.cell?_alloc_new]
      rcases j with _ | _ | j
      · rfl
      · rfl
      · omega
    · have := World.cell?_alloc_new (w.alloc (.cells #[.int .i64 0, .slice none 0 0] 26)) #[.int .i64 n, .slice none 0 0] 26 0
      rw [World.size_alloc] at this; exact this
    · have := World.cell?_alloc_new (w.alloc (.cells #[.int .i64 0, .slice none 0 0] 26)) #[.int .i64 n, .slice none 0 0] 26 1
      rw [World.size_alloc] at this; exact this
    · have := World.frozen?_alloc_new (w.alloc (.cells #[.int .i64 0, .slice none 0 0] 26)) #[.int .i64 n, .slice none 0 0] 26 1
      rw [World.size_alloc] at this; exact this
    · rw [Nat.zero_mul]; exact own_nil _ _ _
  case round =>
    obtain ⟨i, hi, rfl, hR⟩ := hrel
    have HR := Lib.hid hR; clear hR
    by_cases hlt : i < n
    · go_wp2_with fail
      go_loopw [15] (fun s wr => ∃ k : Nat, k ≤ n ∧ s = .int .i64 k ∧ CycRel w wr n (i * n + k)) (fun s _ => n - (intOf s).toNat)
      case atStart => exact ⟨0, by omega, rfl, HR.out⟩
      case round =>
        clear HR
        obtain ⟨k, hk, rfl, hB, hz, hA, v, k0, k1, k2, ho⟩ := hrel
        have HO := Lib.hid ho; have HA := Lib.hid hA; have HB := Lib.hid hB
        clear ho hA hB
        by_cases hkl : k < n
        · obtain ⟨W, hW⟩ : ∃ W, W = wr := ⟨_, rfl⟩
          have kb : wr.cell? ⟨b, 0, none⟩ = some (.int .i64 n) := by rw [HB.out.cell (p := ⟨b, 0, none⟩) hb]; exact hc
          have hz' : w.heap.size + 1 < wr.heap.size := by omega
          have hbo := HO.out.block
          have HBO := Lib.hid hbo; clear hbo
          have hin : i * n + k < 64 := by
            have := place_lt hlt hkl
            have : n * n ≤ 8 * 8 := Nat.mul_le_mul hn8 hn8
            omega
          clear hW
          go_wp2_with fail
          go_region_law (first
            | (refine step_append_lies _ (by rfl) _ _ _ (by rfl) (w.heap.size + 2) 3 i0 _ 1 8 Tryd.underlying22 hi0 hz0 hz1 hz2 rfl (by omega) v _ _ (by rfl) ((World.ownsRow.alloc HO.out _).drew)
                ⟨wr.heap.size, 0, none⟩ 1 1 [.int .i64 (((i + k) % n : Nat) : Int)] (by rfl) (by rfl) (World.news_of_block (cs := #[.int .i64 (((i + k) % n : Nat) : Int)]) (t := 3) (fr := (0, 0)) (heap_alloc_new wr _)) (by simp [Value.oneCell'])
                (by omega) (by unfold maxLen; rw [cycTo_len]; omega) (by rw [cycTo_len]; omega) (by simp; omega) (wr.heap.size + 1) (by simp) ?_; intro gg cap w1 hown1 hgrow hat hlt1; have ff := own_far hgrow HBO.out hz' k0 k1 k2; obtain ⟨f0, f1, f2⟩ := ff)
            | (go_simp; refine (HC.out i k _ hlt hkl (by exact kb)).mono ?_; rintro e w' ⟨rfl, rfl⟩))
          all_goals
            have HN := Lib.hid (cyc_step hkl HB.out (by omega) HA.out HBO.out hgrow f0 f1 f2 hown1)
            clear hown1 hgrow f0 f1 f2 hat hlt1
            go_wp2
            go_roundw
            case rel => exact ⟨k + 1, by omega, by go_num, HN.out⟩
            case measure => simp [intOf]; omega
        · obtain rfl : k = n := by omega
          have HN : Hid (CycRel w wr k ((i + 1) * k)) := by rw [Nat.add_mul, Nat.one_mul]; exact ⟨HB.out, hz, HA.out, v, k0, k1, k2, HO.out⟩
          go_wp2
          go_roundw
          case rel => exact ⟨i + 1, by omega, by go_num, HN.out⟩
          case measure => simp [intOf]; omega
    · obtain rfl : i = n := by omega
      obtain ⟨hB, hz, hA, v, k0, k1, k2, ho⟩ := HR.out
      obtain ⟨va, vl, vc, rfl⟩ := ho.shape
      have HO := Lib.hid ho; have HB := Lib.hid hB; have HA := Lib.hid hA
      have a0 := hA.cell (show 0 < 2 by omega); have a1 := hA.cell (show 1 < 2 by omega)
      have b0 := hA.free (show 0 < 2 by omega); have b1 := hA.free (show 1 < 2 by omega)
      have hz' : w.heap.size + 1 < wr.heap.size := by omega
      clear hA ho hB
      go_wp2
      refine bodyPost_ret (results_arr1 (p := 4) rfl ((HA.out.set (show 0 < 2 by omega) (.int .i64 i)).set (show 1 < 2 by omega) (.slice va vl vc)) Tryd.underlying26 rfl (by kernel_rfl) rfl) rfl ⟨.slice va vl vc, rfl, ?_, (HB.out.setCell (Nat.le_refl _) _).setCell (Nat.le_refl _) _⟩
      exact (HO.out.setFar (by simp) _).setFar (by simp) _

end Go.Proofs.YtdbfpdhcaiiiaaaDoor

namespace Go.Proofs.YtdbfpdhcaiiiaaaDoor
open Go.RowKit

theorem arr_sq (w : World) (p q : Value) (t : TypeId) : Arr (w.alloc (.cells #[p, q] t)) w.heap.size 2 (fun j => if j = 0 then p else q) := by
  refine ⟨by simp, fun j hj => ⟨?_, World.frozen?_alloc_new _ _ _ _⟩⟩
  rw [World.cell?_alloc_new]
  rcases j with _ | _ | j
  · rfl
  · rfl
  · omega

set_option maxHeartbeats 1000000 in
theorem cyclic_yes (n : Nat) (w : World) (hn : 1 ≤ n) (hn8 : n ≤ 8) :
    Calls Tryd.prog 7 #[.int .i64 n] w fun e w' => ∃ v, e = .returned (.tuple #[.agg #[.int .i64 n, v], .int .i64 0]) ∧ Own w' w.heap.size 3 v (cycTo n (n * n)) ∧ Below w.heap.size w w' := by
  have hs : sideB n = true := by simp [sideB]; omega
  have Hs := Lib.hid (side_any n); rw [hs] at Hs; clear hs
  go_enter Tryd.func7, Tryd.ntmps7
  go_wp2_with fail
  refine (Hs.out _).mono ?_
  rintro e w1 ⟨rfl, rfl⟩
  have hw1 : ((w.alloc (.cells #[.int .i64 n] 3)).alloc (.cells #[.int .i64 0, .slice none 0 0] 26)).cell? ⟨w.heap.size, 0, none⟩ = some (.int .i64 n) := by
    rw [World.cell?_alloc_old _ _ _ (by simp), World.cell?_alloc_new]; rfl
  have hA := arr_sq (w.alloc (.cells #[.int .i64 n] 3)) (.int .i64 0) (.slice none 0 0) 26
  rw [World.size_alloc] at hA
  have HA := Lib.hid hA
  have HC := Lib.hid (filled_cyc n w.heap.size _ hn hn8 (by simp; omega) hw1)
  clear hA hw1
  go_wp2_with fail
  refine HC.out.mono ?_
  rintro e w1 ⟨v, rfl, hI, hb1⟩
  obtain ⟨va, vl, vc, rfl⟩ := hI.shape
  have hA1 := HA.out.below hb1
  have HA1 := Lib.hid hA1
  have HI := Lib.hid hI
  have HB := Lib.hid (belowTrans (belowTrans (below_box w _) (below_box _ _)) hb1)
  have HZ := hb1.size
  simp only [World.size_alloc] at HZ
  have a0 := hA1.cell (show 0 < 2 by omega); have a1 := hA1.cell (show 1 < 2 by omega)
  have b0 := hA1.free (show 0 < 2 by omega); have b1 := hA1.free (show 1 < 2 by omega)
  clear hA1 hI hb1
  go_wp2
  refine bodyPost_ret (results_arrT (p := 2) (u := 3) rfl ((HA1.out.set (show 0 < 2 by omega) (.int .i64 n)).set (show 1 < 2 by omega) (.slice va vl vc)) Tryd.underlying26 rfl (by kernel_rfl) rfl) rfl ⟨.slice va vl vc, rfl, ?_, (HB.out.setCell (Nat.le_succ _) _).setCell (Nat.le_succ _) _⟩
  simp only [World.size_alloc] at HI
  exact ((HI.out.setFar (by simp) _).setFar (by simp) _).base (by omega)

set_option maxHeartbeats 1000000 in
theorem cyclic_no (n : Int) (w : World) (hn : n < 1 ∨ 8 < n) :
    Calls Tryd.prog 7 #[.int .i64 n] w fun e w' => e = .returned (.tuple #[.agg #[.int .i64 0, .slice none 0 0], .int .i64 1]) ∧ Below w.heap.size w w' := by
  have hs : sideB n = false := by simp [sideB]; omega
  have Hs := Lib.hid (side_any n); rw [hs] at Hs; clear hs
  go_enter Tryd.func7, Tryd.ntmps7
  go_wp2_with fail
  refine (Hs.out _).mono ?_
  rintro e w1 ⟨rfl, rfl⟩
  go_wp2_with fail
  have hA := arr_sq (w.alloc (.cells #[.int .i64 n] 3)) (.int .i64 0) (.slice none 0 0) 26
  rw [World.size_alloc] at hA
  refine bodyPost_ret (results_arrT (p := 2) (u := 3) rfl hA Tryd.underlying26 rfl (by kernel_rfl) rfl) rfl ⟨rfl, belowTrans (below_box _ _) (below_box _ _)⟩

end Go.Proofs.YtdbfpdhcaiiiaaaDoor

namespace Go.Proofs.YtdbfpdhcaiiiaaaDoor
open Go.RowKit

theorem with_fine {P D : Nat} {low es : List Int} (hF : IsField P D low) (h : ∀ x ∈ es, 0 ≤ x ∧ x < ((P ^ D : Nat) : Int)) : withFault P D low es = 0 := by
  unfold withFault
  rw [if_neg (by have := fault_of hF; simp [this])]
  rw [if_neg]
  intro hc
  obtain ⟨x, hx, ho⟩ := List.any_eq_true.1 hc
  have := h x hx
  unfold outQ at ho
  rw [hF.q, decide_eq_true_eq] at ho
  omega
theorem mulM_ltq {p d : Nat} {low : List Int} (hF : IsField p d low) (a b : Nat) : mulM p d low a b < p ^ d := mulV_lt (by have := hF.p2; omega)
theorem addV_ltq {p d : Nat} {low : List Int} (hF : IsField p d low) (a b : Nat) : addV p d a b < p ^ d := addV_lt (by have := hF.p2; omega)
/-- The cell of a square that a field makes. -/
def madC (p d : Nat) (low : List Int) (a i j : Nat) : Nat := addV p d (mulM p d low a i) j
/-- Its first m cells. -/
def madTo (n : Nat) (c : Nat → Nat → Nat) (m : Nat) : List Int := (List.range m).map fun k => ((c (k / n) (k % n) : Nat) : Int)
theorem madTo_len (n : Nat) (c : Nat → Nat → Nat) (m : Nat) : (madTo n c m).length = m := by simp [madTo]
theorem madTo_succ {n : Nat} (c : Nat → Nat → Nat) {i k : Nat} (hk : k < n) : madTo n c (i * n + k + 1) = madTo n c (i * n + k) ++ [((c i k : Nat) : Int)] := by
  unfold madTo
  rw [List.range_succ, List.map_append]
  have h1 := place_div (n := n) (i := i) hk
  have h2 := place_mod (n := n) (i := i) hk
  unfold dv at h1; unfold md at h2
  simp only [List.map_cons, List.map_nil, h1, h2]

set_option maxRecDepth 100000 in
set_option maxHeartbeats 2000000 in
theorem made1_any (P D a i j bf ba : Nat) (v : Value) (low : List Int) (w : World) (hI : IntsAt w v low) (hF : IsField P D low) (hP : PrimesAt w) (ha : a < P ^ D) (hi : i < P ^ D) (hj : j < P ^ D)
    (k0 : w.cell? ⟨bf, 0, none⟩ = some (.int .i64 P)) (k1 : w.cell? ⟨bf, 1, none⟩ = some (.int .i64 D)) (k2 : w.cell? ⟨bf, 2, none⟩ = some v) (k3 : w.cell? ⟨ba, 0, none⟩ = some (.int .i64 a)) (hbf : bf < w.heap.size) :
    Calls Tryd.prog 29 #[.int .i64 i, .int .i64 j, .pointer (some ⟨bf, 0, none⟩), .pointer (some ⟨ba, 0, none⟩)] w fun e w' => e = .returned (.int .i64 (madC P D low a i j : Nat)) ∧ Below w.heap.size w w' := by
  obtain ⟨sa, sc, rfl, _⟩ := id hI
  have w0 := with_fine (es := [(a : Int), (i : Int)]) hF (fun x hx => by
    simp only [List.mem_cons, List.not_mem_nil, or_false] at hx
    rcases hx with rfl | rfl <;> omega)
  have hm := mulM_ltq hF a i
  have w1 := with_fine (es := [((mulM P D low a i : Nat) : Int), (j : Int)]) hF (fun x hx => by
    simp only [List.mem_cons, List.not_mem_nil, or_false] at hx
    rcases hx with rfl | rfl <;> omega)
  have m1 := fmul_any P D a i _ low w hI hP
  unfold OpPost at m1
  rw [w0] at m1
  have HM := Lib.hid m1
  have HA : Hid (∀ W, Below w.heap.size w W → Calls Tryd.prog 30 #[.agg #[.int .i64 (P : Int), .int .i64 (D : Int), .slice sa low.length sc], .int .i64 (mulM P D low a i : Nat), .int .i64 (j : Int)] W fun e w' => e = .returned (.tuple #[.int .i64 (madC P D low a i j : Nat), .int .i64 0]) ∧ Below W.heap.size W w') := fun W hW => by
    have := fadd_any P D (mulM P D low a i : Nat) j _ low W (hI.below hW) (hP.below hW)
    unfold OpPost at this
    rw [w1, if_pos rfl, Int.toNat_natCast, Int.toNat_natCast, Int.toNat_natCast, Int.toNat_natCast] at this
    exact this
  rw [if_pos rfl, Int.toNat_natCast, Int.toNat_natCast, Int.toNat_natCast, Int.toNat_natCast] at HM
  clear hI hF hP w0 w1 m1 hm
  generalize mulM P D low a i = M at *
  generalize madC P D low a i j = R at *
  go_enter Tryd.func29, Tryd.ntmps29
  go_wp2_with fail
  refine HM.out.mono ?_
  rintro e w1 ⟨rfl, hb1⟩
  have HB1 := Lib.hid hb1
  have l0 := (hb1.cell (p := ⟨bf, 0, none⟩) hbf).trans k0
  have l1 := (hb1.cell (p := ⟨bf, 1, none⟩) hbf).trans k1
  have l2 := (hb1.cell (p := ⟨bf, 2, none⟩) hbf).trans k2
  clear k0 k1 k2 k3 hb1
  go_wp2_with fail
  refine (HA.out _ HB1.out).mono ?_
  rintro e w2 ⟨rfl, hb2⟩
  have HB2 := Lib.hid (belowTrans HB1.out hb2)
  clear hb2
  go_wp2_with fail
  go_ret
  exact ⟨rfl, HB2.out⟩

/-- What filled holds. -/
structure MadRel (w wr : World) (n : Nat) (u : Value) (xs : List Int) : Prop where
  bel : Below w.heap.size w wr
  hz : w.heap.size + 2 ≤ wr.heap.size
  res : Arr wr w.heap.size 2 (fun j => if j = 0 then .int .i64 0 else .slice none 0 0)
  out : Arr wr (w.heap.size + 1) 2 (fun j => if j = 0 then .int .i64 (n : Int) else u)
  own : Own wr (w.heap.size + 2) 3 u xs
theorem MadRel.next {w wr W : World} {n : Nat} {u : Value} {xs : List Int} (h : MadRel w wr n u xs) (hb : Below wr.heap.size wr W) : MadRel w W n u xs :=
  ⟨belowTrans h.bel hb, Nat.le_trans h.hz hb.size, h.res.below hb, h.out.below hb, h.own.below hb⟩
theorem mad_start (w : World) (n : Nat) : MadRel w ((w.alloc (.cells #[.int .i64 0, .slice none 0 0] 26)).alloc (.cells #[.int .i64 (n : Int), .slice none 0 0] 26)) n (.slice none 0 0) [] := by
  have h2 := arr_sq (w.alloc (.cells #[.int .i64 0, .slice none 0 0] 26)) (.int .i64 (n : Int)) (.slice none 0 0) 26
  rw [World.size_alloc] at h2
  exact ⟨belowTrans (below_box _ _) (below_box _ _), by simp, Arr.alloc (arr_sq w _ _ _) _, h2, own_nil _ _ _⟩
theorem MadRel.push {w w1 w2 : World} {n : Nat} {u u' : Value} {xs : List Int} {y : Int} (h : MadRel w w1 n u xs) (ho : Own w2 (w.heap.size + 2) 3 u' (xs ++ [y])) (hg : w1.grownBy w2 u.ownBlock) :
    MadRel w (w2.setCell ⟨w.heap.size + 1, 1, none⟩ u') n u' (xs ++ [y]) := by
  have hb := h.own.block
  have hsz := hg.size
  have hz := h.hz
  have hB : Below w.heap.size w w2 := h.bel.grown hg (by omega) (fun k hk => by have := (hb k hk).1; omega)
  have kp : ∀ {b : Nat} {f : Nat → Value}, b < w.heap.size + 2 → Arr w1 b 2 f → Arr w2 b 2 f := fun hlt hA =>
    Arr.kept hA (fun o => (far_cell hg (base := w.heap.size + 2) (fun k hk => (hb k hk).1) hlt (by omega)).1) (fun o => (far_cell hg (base := w.heap.size + 2) (fun k hk => (hb k hk).1) hlt (by omega)).2) hsz
  refine ⟨hB.setCell (Nat.le_succ _) _, by rw [World.size_setCell]; omega, (kp (by omega) h.res).setOther (by simp) _, ?_, ho.setFar (by simp) _⟩
  refine ((kp (by omega) h.out).set (show 1 < 2 by omega) u').congr fun j hj => ?_
  rcases j with _ | _ | j
  · rfl
  · rfl
  · omega
theorem MadRel.spot {w w1 w2 : World} {n : Nat} {u : Value} {xs : List Int} (h : MadRel w w1 n u xs) (hg : w1.grownBy w2 u.ownBlock) :
    w2.cell? ⟨w.heap.size + 1, 1, none⟩ = some u ∧ w2.frozen? ⟨w.heap.size + 1, 1, none⟩ = false := by
  have hb := h.own.block
  have hz := h.hz
  have f := far_cell hg (base := w.heap.size + 2) (b := w.heap.size + 1) (o := 1) (fun k hk => (hb k hk).1) (by omega) (by omega)
  exact ⟨f.1.trans (h.out.cell (show 1 < 2 by omega)), f.2.trans (h.out.free (show 1 < 2 by omega))⟩

set_option maxRecDepth 100000 in
set_option maxHeartbeats 4000000 in
theorem filled_made (n bf ba : Nat) (c : Nat → Nat → Nat) (w : World) (hn : 1 ≤ n) (hn8 : n ≤ 8)
    (hC : ∀ (i j : Nat) (W : World), i < n → j < n → Below w.heap.size w W → Calls Tryd.prog 29 #[.int .i64 i, .int .i64 j, .pointer (some ⟨bf, 0, none⟩), .pointer (some ⟨ba, 0, none⟩)] W fun e w' => e = .returned (.int .i64 (c i j : Nat)) ∧ Below W.heap.size W w') :
    Calls Tryd.prog 26 #[.int .i64 n, .func (.func 29) #[] #[.pointer (some ⟨bf, 0, none⟩), .pointer (some ⟨ba, 0, none⟩)]] w fun e w' =>
      ∃ v, e = .returned (.agg #[.int .i64 n, v]) ∧ Own w' (w.heap.size + 2) 3 v (madTo n c (n * n)) ∧ Below w.heap.size w w' := by
  have HC := Lib.hid hC
  have HS := Lib.hid (mad_start w n)
  clear hC
  go_enter Tryd.func26, Tryd.ntmps26
  go_wp2_with fail
  go_loopw [6, 7, 11, 15] (fun _ _ s _ wr => ∃ (i : Nat) (u : Value), i ≤ n ∧ s = .int .i64 i ∧ MadRel w wr n u (madTo n c (i * n))) (fun _ _ s _ _ => n - (intOf s).toNat)
  case atStart => exact ⟨0, _, by omega, rfl, by rw [Nat.zero_mul]; exact HS.out⟩
  case round =>
    clear HS
    obtain ⟨i, u, hi, rfl, hR⟩ := hrel
    have HR := Lib.hid hR; clear hR
    by_cases hlt : i < n
    · go_wp2_with fail
      go_loopw [7, 15] (fun _ s wr => ∃ (k : Nat) (u : Value), k ≤ n ∧ s = .int .i64 k ∧ MadRel w wr n u (madTo n c (i * n + k))) (fun _ s _ => n - (intOf s).toNat)
      case atStart => exact ⟨0, _, by omega, rfl, HR.out⟩
      case round =>
        clear HR
        obtain ⟨k, u, hk, rfl, hR⟩ := hrel
        obtain ⟨ua, ul, uc, rfl⟩ := hR.own.shape
        have HR := Lib.hid hR
        have o1 := hR.out.cell (show 1 < 2 by omega); have o2 := hR.out.free (show 1 < 2 by omega)
        have hsz := hR.hz
        clear hR
        by_cases hkl : k < n
        · have HRD : Hid (∀ m, MadRel w (wr.drewN m) n (.slice ua ul uc) (madTo n c (i * n + k))) := fun m => HR.out.next (below_D _ _)
          have hin : i * n + k < 64 := by
            have := place_lt hlt hkl
            have : n * n ≤ 8 * 8 := Nat.mul_le_mul hn8 hn8
            omega
          have HSu := Lib.hid (madTo_succ c (i := i) hkl)
          have HLn := Lib.hid (madTo_len n c (i * n + k))
          have HBm : Hid (∀ m, Below w.heap.size w (wr.drewN m)) := fun m => (HRD.out m).bel
          clear o2
          go_wp2_with fail
          go_region_law (first
            | (refine step_ints (by rfl) _ _ (by rfl) (by rfl) (HR2.out.own.below (below_box _ _)) w2.heap.size (by rfl) (World.cell?_alloc_new w2 _ _ 0) (by rw [HLn.out]; omega) (by simp; omega) ?_; intro v' w3 hown1 hgrow; obtain ⟨va, vl, vc, rfl⟩ := hown1.shape; have HR3 := Lib.hid ((HR2.out.next (below_box _ _)).push hown1 hgrow); obtain ⟨y1, y2⟩ := (HR2.out.next (below_box _ _)).spot hgrow; clear hown1 hgrow)
            | (go_simp; refine (HC.out i k _ hlt hkl (by first | exact HR.out.bel | exact HBm.out 1 | exact HBm.out 2 | exact HBm.out 3 | exact HBm.out 4 | exact HBm.out 5 | fail)).mono ?_; rintro e w2 ⟨rfl, hb⟩; have HR2 : Hid (MadRel w w2 n (.slice ua ul uc) (madTo n c (i * n + k))) := (by first | exact HR.out.next hb | exact (HRD.out 1).next hb | exact (HRD.out 2).next hb | exact (HRD.out 3).next hb | exact (HRD.out 4).next hb | exact (HRD.out 5).next hb | fail); have o1' := HR2.out.out.cell (show 1 < 2 by omega); have hsz2 := HR2.out.hz; have hne2 : ¬ w.heap.size + 1 = w2.heap.size := (by omega); have o3' := (World.cell?_alloc_old w2 (.cells #[.int .i64 (c i k : Nat)] 3) ⟨w.heap.size + 1, 1, none⟩ hne2).trans o1'; clear hb))
          all_goals
            rw [← HSu.out] at HR3
            go_wp2_with fail
            go_roundw
            case rel => exact ⟨k + 1, _, by omega, by go_num, HR3.out⟩
            case measure => simp [intOf]; omega
        · obtain rfl : k = n := by omega
          have HN : Hid (MadRel w wr k (.slice ua ul uc) (madTo k c ((i + 1) * k))) := by rw [Nat.add_mul, Nat.one_mul]; exact HR.out
          go_wp2_with fail
          go_roundw
          case rel => exact ⟨i + 1, _, by omega, by go_num, HN.out⟩
          case measure => simp [intOf]; omega
    · obtain rfl : i = n := by omega
      obtain ⟨va, vl, vc, rfl⟩ := HR.out.own.shape
      have o0 := HR.out.out.cell (show 0 < 2 by omega); have o1 := HR.out.out.cell (show 1 < 2 by omega)
      have a0 := HR.out.res.cell (show 0 < 2 by omega); have a1 := HR.out.res.cell (show 1 < 2 by omega)
      have b0 := HR.out.res.free (show 0 < 2 by omega); have b1 := HR.out.res.free (show 1 < 2 by omega)
      go_wp2_with fail
      refine bodyPost_ret (results_arr1 (p := 4) rfl ((HR.out.res.set (show 0 < 2 by omega) (.int .i64 i)).set (show 1 < 2 by omega) (.slice va vl vc)) Tryd.underlying26 rfl (by kernel_rfl) rfl) rfl ⟨.slice va vl vc, rfl, ?_, (HR.out.bel.setCell (Nat.le_refl _) _).setCell (Nat.le_refl _) _⟩
      exact (HR.out.own.setFar (by simp) _).setFar (by simp) _
end Go.Proofs.YtdbfpdhcaiiiaaaDoor
