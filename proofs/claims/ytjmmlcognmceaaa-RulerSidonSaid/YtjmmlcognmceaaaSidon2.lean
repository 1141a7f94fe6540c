/-
  Contract: ruler.Sidon. No condition.
-/
import Derived.Test.YtjmmlcognmceaaaSidon
namespace Go.Proofs.Ytjmmlcognmceaaa
open Go.RowKit

def sidonR (n : Int) (xs : List Int) : Bool := setFault n xs == 0 && sidB xs n

set_option maxRecDepth 100000 in
set_option maxHeartbeats 1000000 in
theorem sidon_any (n : Int) (v : Value) (xs : List Int) (w : World) (h : IntsAt w v xs) :
    Calls Try.prog 24 #[v, .int .i64 n] w fun e w' => e = .returned (.tuple #[.bool (sidonR n xs), .int .i64 (setFault n xs)]) ∧ Below w.heap.size w w' := by
  have HI := Lib.hid h
  by_cases hf : setFault n xs = 0
  · have HS := Lib.hid (set_of hf)
    have HF := Lib.hid hf
    have HR : Hid (sidonR n xs = sidB xs n) := by show _ = _; unfold sidonR; rw [hf]; rfl
    have hn1 := HS.out.lo; have hn2 := HS.out.hi
    have hl : (xs.length : Int) ≤ n := inc_len HS.out.rng HS.out.inc (by omega)
    obtain ⟨a, c, rfl, h1, h2, _, h3⟩ := h
    have HX := Lib.hid h3
    clear h3 hf
    go_enter Try.func24, Try.ntmps24
    go_wp2_with fail
    refine (dcheck_any n _ xs _ HI.out).mono ?_
    rw [HF.out]
    rintro e w1 ⟨rfl, hb1⟩
    have H1 := Lib.hid hb1; clear hb1
    go_wp2_with fail
    go_loopw [21] (fun s wr => ∃ i : Nat, i ≤ xs.length ∧ s = .int .i64 i ∧ nodB (sAll xs n i) = true ∧ Flags wr w1.heap.size 60 (fun j => mem (sAll xs n i) (j : Int)) ∧ Below w1.heap.size w1 wr) (fun s _ => xs.length - (intOf s).toNat)
    case atStart => exact ⟨0, by omega, rfl, rfl, Arr.newOf _ 60 _ _ _ rfl, below_box _ _⟩
    case round =>
      obtain ⟨i, hi, rfl, hn, hfl, hb⟩ := hrel
      have HN := Lib.hid hn; have HFl := Lib.hid hfl; have HB := Lib.hid hb
      clear hn hfl hb
      by_cases hlt : i < xs.length
      · obtain ⟨b, o, rfl, hbb, hcc⟩ := HX.out i hlt
        have HC := Lib.hid hcc
        have hui := HS.out.rng i hlt
        have hci : wr.cell? ⟨b, o + i, none⟩ = some (.int .i64 (ix xs i)) := by rw [(bcell (belowTrans H1.out HB.out)).1 _ _ hbb]; exact hcc i hlt
        have hsl := fun W => run_high W (some ⟨b, o, none⟩) xs.length c (i + 1) (by omega)
        rw [show ((i + 1 : Nat) : Int) = (i : Int) + 1 by omega] at hsl
        clear hcc
        go_wp2_with fail
        clear hci hsl
        go_loopw [31] (fun s wr => ∃ j : Nat, j ≤ i + 1 ∧ s = .int .i64 j ∧ nodB (sRow xs n i (sAll xs n i) j) = true ∧ Flags wr w1.heap.size 60 (fun q => mem (sRow xs n i (sAll xs n i) j) (q : Int)) ∧ Below w1.heap.size w1 wr) (fun s _ => i + 1 - (intOf s).toNat)
        case atStart => exact ⟨0, by omega, rfl, HN.out, HFl.out, HB.out⟩
        case round =>
          clear HN HFl HB
          obtain ⟨j, hj, rfl, hn, hfl, hb⟩ := hrel
          have HN := Lib.hid hn; have HFl := Lib.hid hfl; have HB := Lib.hid hb
          clear hn hfl hb
          by_cases hji : j ≤ i
          · have huj := HS.out.rng j (by omega)
            have hcj : wr.cell? ⟨b, o + j, none⟩ = some (.int .i64 (ix xs j)) := by rw [(bcell (belowTrans H1.out HB.out)).1 _ _ hbb]; exact HC.out j (by omega)
            have hm0 : ¬ n = 0 := by omega
            obtain ⟨s, hs⟩ : ∃ s : Nat, (ix xs i + ix xs j) % n = (s : Int) := Int.eq_ofNat_of_zero_le (Int.emod_nonneg _ hm0)
            have hs2 : (s : Int) < n := by rw [← hs]; exact Int.emod_lt_of_pos _ (by omega)
            have hs60 : s < 60 := by omega
            have f1 : wr.cell? ⟨w1.heap.size, s, none⟩ = some (.bool (mem (sRow xs n i (sAll xs n i) j) (s : Int))) := Arr.cell HFl.out hs60
            have f2 : wr.frozen? ⟨w1.heap.size, s, none⟩ = false := Arr.free HFl.out hs60
            have HSs := Lib.hid hs
            cases em : mem (sRow xs n i (sAll xs n i) j) (s : Int)
            · have Hm := Lib.hid em
              rw [em] at f1
              clear em
              have HF1 : Hid (Flags (wr.setCell ⟨w1.heap.size, s, none⟩ (.bool true)) w1.heap.size 60 (fun q => mem (sRow xs n i (sAll xs n i) (j + 1)) (q : Int))) := by
                refine (Flags.set HFl.out hs60).congr fun q _ => ?_
                show Value.bool (mem (sRow xs n i (sAll xs n i) j) (q : Int) || s == q) = Value.bool (mem (sRow xs n i (sAll xs n i) (j + 1)) (q : Int))
                rw [sRow, HSs.out, mem_snoc]
                congr 2
                rw [Bool.eq_iff_iff]; simp only [beq_iff_eq]; omega
              have HB1 := Lib.hid (HB.out.setCell (Nat.le_refl _) (p := ⟨w1.heap.size, s, none⟩) (.bool true))
              go_wp2_with fail
              go_roundw
              case rel => exact ⟨j + 1, by omega, by go_num, by rw [sRow, nodB_snoc, HN.out, HSs.out, Hm.out]; rfl, HF1.out, HB1.out⟩
              case measure => simp [intOf]; omega
            · have Hbad : Hid (sidB xs n = false) := sid_hit hji hlt (by rw [hs]; exact em)
              rw [em] at f1
              clear em
              go_wp2_with fail
              go_ret2
              exact ⟨by rw [HR.out, Hbad.out, HF.out]; rfl, belowTrans H1.out HB.out⟩
          · obtain rfl : j = i + 1 := by omega
            go_wp2_with fail
            go_roundw
            case rel => exact ⟨i + 1, by omega, by go_num, HN.out, HFl.out, HB.out⟩
            case measure => simp [intOf]; omega
      · obtain rfl : i = xs.length := by omega
        have Hok : Hid (sidB xs n = true) := HN.out
        go_wp2_with fail
        go_ret2
        exact ⟨by rw [HR.out, Hok.out, HF.out]; rfl, belowTrans H1.out HB.out⟩
  · have e2 : (setFault n xs != 0) = true := by simpa using hf
    have HR : Hid (sidonR n xs = false) := by show _ = _; unfold sidonR; simp [hf]
    clear hf
    go_enter Try.func24, Try.ntmps24
    go_wp2_with fail
    refine (dcheck_any n _ xs _ HI.out).mono ?_
    rintro e w1 ⟨rfl, hb1⟩
    have H1 := Lib.hid hb1; clear hb1
    go_wp2_with fail
    go_ret2
    exact ⟨by rw [HR.out]; rfl, H1.out⟩
end Go.Proofs.Ytjmmlcognmceaaa
