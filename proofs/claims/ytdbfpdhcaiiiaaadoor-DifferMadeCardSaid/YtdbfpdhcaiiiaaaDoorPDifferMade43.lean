/-
  Contract: differ.Level. No condition.
  Contract: the closed fact on sets of differences. No condition.
  What the condition on the table of primes gives: its cells. No condition but that.
-/
import Derived.Test.YtdbfpdhcaiiiaaaDoorPDifferMade42
import Derived.Test.YtdbfpdhcaiiiaaaDoorPDifferMade9
import Derived.Test.YtdbfpdhcaiiiaaaDoorPDifferMade13
import Derived.Test.YtdbfpdhcaiiiaaaDoorRows
import Derived.ProofKit
import Derived.LaidMore
import Derived.OpenShut
import Derived.Lib.LaidTab
import Derived.Stop.Joined
namespace Go.Proofs.YtdbfpdhcaiiiaaaDoor
open Go.RowKit

/-- What differ.Level hands back. -/
def DifPost (l e : Int) (w : World) : Ending → World → Prop := fun d w' => d = .returned (.tuple #[.int .i64 l, .int .i64 e]) ∧ Below w.heap.size w w'
theorem dN_val {v : Nat} {a b : Int} (hv : 0 < v) : (a - b + v) % (v : Int) = ((dN v a b : Nat) : Int) ∧ dN v a b < v := by
  have h1 : 0 ≤ (a - b + v) % (v : Int) := Int.emod_nonneg _ (by omega)
  have h2 : (a - b + v) % (v : Int) < v := Int.emod_lt_of_pos _ (by omega)
  unfold dN
  omega

set_option maxRecDepth 100000 in
set_option maxHeartbeats 1000000 in
theorem dlevel_bad (n : Int) (v : Value) (xs : List Int) (w : World) (h : IntsAt w v xs) (hf : setFault n xs ≠ 0) :
    Calls Tryd.prog 16 #[.int .i64 n, v] w (DifPost 0 (setFault n xs) w) := by
  have hne : (setFault n xs != 0) = true := by simpa using hf
  have HC := Lib.hid (dcheck_any n v xs w h)
  obtain ⟨a, c, rfl, _⟩ := h
  clear hf
  generalize setFault n xs = e0 at *
  go_enter Tryd.func16, Tryd.ntmps16
  go_wp2_with fail
  refine (HC.out).mono ?_
  rintro e w1 ⟨rfl, hb⟩
  have HB := Lib.hid hb; clear hb
  go_wp2_with fail
  go_ret2
  exact ⟨rfl, HB.out⟩

set_option maxRecDepth 100000 in
set_option maxHeartbeats 2000000 in
theorem dlevel_ok (n : Nat) (v : Value) (xs : List Int) (w : World) (h : IntsAt w v xs) (hS : IsSet n xs) :
    Calls Tryd.prog 16 #[.int .i64 (n : Nat), v] w (DifPost (difL n xs) (difE n xs) w) := by
  have HI := Lib.hid h
  have HC := Lib.hid (dcheck_any n v xs w h)
  rw [hS.fault] at HC
  have HS := Lib.hid hS
  have hn1 := hS.lo; have hn2 := hS.hi
  have hl : (xs.length : Int) ≤ n := inc_len hS.rng hS.inc (by omega)
  have hE : difE n xs = if dAll n xs n then 0 else 4 := by unfold difE; rw [if_neg (by rw [hS.fault]; simp), Int.toNat_natCast]
  have HE := Lib.hid hE
  obtain ⟨a, c, rfl, h1, h2, _, h3⟩ := h
  have HX := Lib.hid h3
  clear h3 hS hE
  go_enter Tryd.func16, Tryd.ntmps16
  go_wp2_with fail
  refine (HC.out).mono ?_
  rintro e w1 ⟨rfl, hb1⟩
  have H1 := Lib.hid hb1; clear hb1
  go_wp2_with fail
  go_loopw [21] (fun s wr => ∃ i : Nat, i ≤ xs.length ∧ s = .int .i64 i ∧ Nums wr w1.heap.size 60 (fun j => (dto n xs i j : Nat)) ∧ Below w1.heap.size w1 wr) (fun s _ => xs.length - (intOf s).toNat)
  case atStart => exact ⟨0, by omega, rfl, Arr.newOf _ 60 _ _ _ rfl, below_box _ _⟩
  case round =>
    obtain ⟨i, hi, rfl, hfl, hb⟩ := hrel
    have HFl := Lib.hid hfl; have HB := Lib.hid hb
    clear hfl hb
    by_cases hlt : i < xs.length
    · obtain ⟨b, o, rfl, hbb, hcc⟩ := HX.out i hlt
      have HCc := Lib.hid hcc
      have hui := HS.out.rng i hlt
      have hci : wr.cell? ⟨b, o + i, none⟩ = some (.int .i64 (ix xs i)) := by rw [(bcell (belowTrans H1.out HB.out)).1 _ _ hbb]; exact hcc i hlt
      clear hcc
      go_wp2_with fail
      clear hci
      go_loopw [27] (fun s wr => ∃ j : Nat, j ≤ xs.length ∧ s = .int .i64 j ∧ Nums wr w1.heap.size 60 (fun q => ((dto n xs i q + drow n xs i j q : Nat) : Int)) ∧ Below w1.heap.size w1 wr) (fun s _ => xs.length - (intOf s).toNat)
      case atStart => exact ⟨0, by omega, rfl, HFl.out, HB.out⟩
      case round =>
        clear HFl HB
        obtain ⟨j, hj, rfl, hfl, hb⟩ := hrel
        have HFl := Lib.hid hfl; have HB := Lib.hid hb
        clear hfl hb
        by_cases hji : j < xs.length
        · have huj := HS.out.rng j hji
          have hcj : wr.cell? ⟨b, o + j, none⟩ = some (.int .i64 (ix xs j)) := by rw [(bcell (belowTrans H1.out HB.out)).1 _ _ hbb]; exact HCc.out j hji
          have hm0 : ¬ n = 0 := by omega
          have hd := dN_val (v := n) (a := ix xs i) (b := ix xs j) (by omega)
          have hw : IntKind.i64.wrap ((dN n (ix xs i) (ix xs j) : Nat) : Int) = ((dN n (ix xs i) (ix xs j) : Nat) : Int) := IntWalk.i64_in _ (by omega)
          have hs60 : dN n (ix xs i) (ix xs j) < 60 := by omega
          have fc : wr.cell? ⟨w1.heap.size, dN n (ix xs i) (ix xs j), none⟩ = some (.int .i64 ((dto n xs i (dN n (ix xs i) (ix xs j)) + drow n xs i j (dN n (ix xs i) (ix xs j)) : Nat) : Int)) := HFl.out.cell hs60
          have ff := HFl.out.free hs60
          have hb1 : dto n xs i (dN n (ix xs i) (ix xs j)) ≤ i * xs.length := dto_le _ _ _ _
          have hb2 := drow_le n xs i (dN n (ix xs i) (ix xs j)) j
          have hb3 : i * xs.length ≤ 60 * 60 := Nat.mul_le_mul (by omega) (by omega)
          have HN : Hid (∀ x : Int, x = ((dto n xs i (dN n (ix xs i) (ix xs j)) + drow n xs i j (dN n (ix xs i) (ix xs j)) : Nat) : Int) + 1 → Nums (wr.setCell ⟨w1.heap.size, dN n (ix xs i) (ix xs j), none⟩ (.int .i64 x)) w1.heap.size 60 (fun q => ((dto n xs i q + drow n xs i (j + 1) q : Nat) : Int))) := fun x hx => by
            refine (Nums.set HFl.out hs60 x).congr fun q hq => ?_
            show Value.int .i64 (if q = dN n (ix xs i) (ix xs j) then x else ((dto n xs i q + drow n xs i j q : Nat) : Int)) = Value.int .i64 ((dto n xs i q + drow n xs i (j + 1) q : Nat) : Int)
            congr 1
            rw [drow]
            by_cases e : q = dN n (ix xs i) (ix xs j)
            · subst e; rw [if_pos rfl, if_pos rfl, hx]; omega
            · rw [if_neg e, if_neg (fun e2 => e e2.symm)]; omega
          have hdv := hd.1
          have hdl : ((dN n (ix xs i) (ix xs j) : Nat) : Int) < 60 := by omega
          generalize dN n (ix xs i) (ix xs j) = q at *
          generalize ix xs i = A at *
          generalize ix xs j = B at *
          have hcnt : dto n xs i q + drow n xs i j q ≤ 4000 := by omega
          clear hb1 hb2 hb3 hd
          generalize dto n xs i q + drow n xs i j q = C at *
          go_wp2_with fail
          go_roundw
          case rel => exact ⟨j + 1, by omega, by go_num, HN.out _ (by go_num), HB.out.setCell (Nat.le_refl _) _⟩
          case measure => simp [intOf]; omega
        · obtain rfl : j = xs.length := by omega
          go_wp2_with fail
          go_roundw
          case rel => exact ⟨i + 1, by omega, by go_num, HFl.out, HB.out⟩
          case measure => simp [intOf]; omega
    · obtain rfl : i = xs.length := by omega
      have HFd : Hid (Nums wr w1.heap.size 60 (fun j => (dcnt n xs j : Nat))) := HFl.out
      have hbd : ∀ q, dcnt n xs q ≤ 3600 := fun q => Nat.le_trans (dto_le n xs q xs.length) (Nat.mul_le_mul (show xs.length ≤ 60 by omega) (show xs.length ≤ 60 by omega))
      clear HFl
      go_wp2_with fail
      go_loopw [12] (fun s wr2 => ∃ m nd : Nat, 1 ≤ m ∧ (m ≤ n ∨ m = 1) ∧ s = .int .i64 m ∧ dAll n xs m = true ∧ wr2 = wr.drewN nd) (fun s _ => n + 1 - (intOf s).toNat)
      case atStart => exact ⟨1, 0, by omega, .inr rfl, rfl, by simp [dAll], rfl⟩
      case round =>
        obtain ⟨m, nd, hm1, hm2, rfl, hA, rfl⟩ := hrel
        have HAl := Lib.hid hA
        clear hA
        by_cases hmn : m < n
        · have c1 := HFd.out.cell (show m < 60 by omega)
          have c2 := HFd.out.cell (show 1 < 60 by omega)
          have hm60 : (m : Int) < 60 := by omega
          have hd1 := hbd m; have hd2 := hbd 1
          cases e : (((dcnt n xs m : Nat) : Int) != ((dcnt n xs 1 : Nat) : Int))
          · have He : Hid (dcnt n xs m = dcnt n xs 1) := by show _ = _; simp at e; omega
            go_wp2_with fail
            go_quiet (fail)
            go_wp2_with fail
            go_roundw
            case rel => exact ⟨m + 1, _, by omega, .inl (by omega), by go_num, by rw [dAll, HAl.out, He.out]; simp, rfl⟩
            case measure => simp [intOf]; omega
          · have He : Hid (dcnt n xs m ≠ dcnt n xs 1) := by show _ ≠ _; simp at e; omega
            have HF : Hid (difE n xs = 4) := by show _ = _; rw [HE.out, dAll_stop hm1 He.out hmn]; rfl
            have HF2 : Hid (difL n xs = 0) := by show _ = _; unfold difL; rw [HF.out]; rfl
            go_wp2_with fail
            go_quiet (fail)
            go_wp2_with fail
            go_ret2
            exact ⟨by rw [HF.out, HF2.out]; rfl, belowTrans H1.out (below_drewN (below_drewN HB.out _) _)⟩
        · obtain rfl : m = n := by omega
          have HF : Hid (difE m xs = 0) := by show _ = _; rw [HE.out, HAl.out]; rfl
          by_cases h1 : m = 1
          · have HF2 : Hid (difL m xs = 0) := by show _ = _; unfold difL; rw [if_pos HF.out, if_pos (by omega)]
            have e1 : (((m : Nat) : Int) == 1) = true := by simp [h1]
            clear h1
            go_wp2_with fail
            go_ret2
            exact ⟨by rw [HF.out, HF2.out]; rfl, belowTrans H1.out (below_drewN HB.out _)⟩
          · have HF2 : Hid (difL m xs = (dcnt m xs 1 : Nat)) := by show _ = _; unfold difL; rw [if_pos HF.out, if_neg (by omega), Int.toNat_natCast]
            have e1 : (((m : Nat) : Int) == 1) = false := by simp; omega
            have c2 := HFd.out.cell (show 1 < 60 by omega)
            clear h1
            go_wp2_with fail
            go_ret2
            exact ⟨by rw [HF.out, HF2.out]; rfl, belowTrans H1.out (below_drewN HB.out _)⟩

/-- differ.Level: what it hands back of any numbers. -/
theorem dlevel_any (n : Int) (v : Value) (xs : List Int) (w : World) (h : IntsAt w v xs) :
    Calls Tryd.prog 16 #[.int .i64 n, v] w (DifPost (difL n xs) (difE n xs) w) := by
  by_cases hf : setFault n xs = 0
  · have hS := set_of hf
    have := hS.lo
    obtain ⟨m, rfl⟩ := Int.eq_ofNat_of_zero_le (show 0 ≤ n by omega)
    exact dlevel_ok m v xs w h hS
  · have e1 : difE n xs = setFault n xs := by unfold difE; rw [if_pos hf]
    have e2 : difL n xs = 0 := by unfold difL; rw [if_neg (by rw [e1]; exact hf)]
    rw [e1, e2]
    exact dlevel_bad n v xs w h hf
end Go.Proofs.YtdbfpdhcaiiiaaaDoor

namespace Go.Proofs.YtdbfpdhcaiiiaaaDoor
open Go.RowKit

theorem dfact_level : difE 7 [1, 2, 4] = 0 ∧ difL 7 [1, 2, 4] = 1 := by decide +kernel
theorem ints_three (w : World) (a b c : Int) : IntsAt (w.alloc (.cells #[.int .i64 a, .int .i64 b, .int .i64 c] 3)) (.slice (some ⟨w.heap.size, 0, none⟩) 3 3) [a, b, c] := by
  refine ⟨some ⟨w.heap.size, 0, none⟩, 3, rfl, Nat.le_refl _, by omega, (fun h => by cases h), fun i hi => ⟨w.heap.size, 0, rfl, by simp, fun j hj => ?_⟩⟩
  rw [World.cell?_alloc_new, Nat.zero_add]
  simp only [List.length_cons, List.length_nil] at hj
  rcases j with _ | _ | _ | j
  · rfl
  · rfl
  · rfl
  · omega
set_option maxRecDepth 100000 in
theorem differFact_any (w : World) : Calls Tryd.prog 14 #[] w fun e w' => e = .returned (.bool true) ∧ Below w.heap.size w w' := by
  have H := Lib.hid (dlevel_any 7 _ _ _ (ints_three w 1 2 4))
  rw [dfact_level.1, dfact_level.2] at H
  go_enter Tryd.func14, Tryd.ntmps14
  go_wp2_with fail
  refine (H.out).mono ?_
  rintro e w1 ⟨rfl, hb⟩
  have HB := Lib.hid (belowTrans (below_box w _) hb)
  clear hb H
  go_wp2_with fail
  go_ret
  exact ⟨rfl, HB.out⟩
end Go.Proofs.YtdbfpdhcaiiiaaaDoor

namespace Go.Proofs.YtdbfpdhcaiiiaaaDoor
open Go.RowKit

def primesLaid : List (String × DataW Unit) := [("parterre/field.primes", Rows.laid_parterre_field_primes)]
theorem gPrimes : Tryd.prog.globalNamed "parterre/field.primes" = some 0 := by kernel_rfl
theorem tPrimes : (Tryd.prog.globals[0]?).map (·.type) = some 119 := by kernel_rfl
theorem c18 : Tryd.prog.cellsOf 119 = 18 := by kernel_rfl
theorem cIntP : Tryd.prog.cellsOf 3 = 1 := by kernel_rfl
theorem primes_met (os : Os) (args : Array Value) : laidMetH Tryd.prog primesLaid ((World.doorLaid Tryd.prog 400 os).forCall (fun _ _ => 0) ⟨#[], args, []⟩).memory :=
  laidMetH_of_parts3 (fuel := 8) (laidMet_of_run' 8 (by kernel_rfl) (by kernel_rfl)) (by kernel_rfl) (by kernel_rfl)
theorem primes_tab {H : Type} : (Rows.laid_parterre_field_primes : DataW H) = Lib.tabData .i64 primesL := rfl
theorem primes_of_laid {W : World} (h : laidMetH Tryd.prog primesLaid W) : PrimesAt W := by
  rw [MakeChecks.laidMetH_plain _ _ _ (by kernel_rfl)] at h
  obtain ⟨ps, ⟨g0, t0, cs0, f0, p0, q0, hg0, ht0, hv0, hd0, _, _⟩, _, _⟩ := h
  obtain rfl := Option.some.inj (gPrimes.symm.trans hg0)
  obtain rfl := Option.some.inj (tPrimes.symm.trans ht0)
  have hc := Lib.cells_of_tab (zs := primesL) Tryd.underlying119 Tryd.underlying3 cIntP c18 hd0
  have key : ∀ k, k < 18 → W.cell? ⟨0, k, none⟩ = some (.int .i64 (ix primesL k)) := by
    intro k hk
    rw [World.var?_cell hg0 hv0 k, ← Array.getElem?_toList, hc]
    rw [List.getElem?_map, List.getElem?_eq_getElem (show k < primesL.length from hk)]
    rw [ix_lt (show k < primesL.length from hk)]
    rfl
  exact ⟨World.block_lt_of_cell? W _ (key 0 (by omega)), key⟩
end Go.Proofs.YtdbfpdhcaiiiaaaDoor
