/-
  Contract: the reference's AlikeOf. No condition.
-/
import Derived.Test.YtkmfhnjadpdkeaaRenames
namespace Go.Proofs.Ytkmfhnjadpdkeaa
open Go.RowKit

def rankF (n : Nat) (xs ys : List Int) (k : Nat) : Option (List Int) := oneO (namB n xs ys) (permOf n k)
set_option maxRecDepth 100000 in
set_option maxHeartbeats 4000000 in
theorem alikeOf_any (n : Nat) (xs ys : List Int) (v u : Value) (w : World) (hI : IntsAt w v xs) (hJ : IntsAt w u ys) (hx : IsLatin n xs) (hy : IsLatin n ys) :
    Calls Try.prog 40 #[.agg #[.int .i64 n, v], .agg #[.int .i64 n, u]] w (AlikePost n xs ys w) := by
  have HB1 := Lib.hid ((below_box w (.cells #[.int .i64 n, v] 24)).trans ((below_box _ (.cells #[.int .i64 n, u] 24)).mono (by simp)))
  have HI := Lib.hid (hI.below HB1.out)
  have HJ := Lib.hid (hJ.below HB1.out)
  have hn8 : n ≤ 8 := by have := hx.hi; omega
  have hn1 : 1 ≤ n := by have := hx.lo; omega
  have HR : Hid (∀ ps z W, IntsAt W v xs → IntsAt W u ys → IntsAt W z ps → ps.length = n → (∀ k, k < ps.length → 0 ≤ ix ps k ∧ ix ps k < n) → Calls Try.prog 46 #[.agg #[.int .i64 n, v], .agg #[.int .i64 n, u], z] W fun e w' => e = .returned (.bool (namB n xs ys ps)) ∧ Below W.heap.size W w') :=
    fun ps z W h1 h2 h3 h4 h5 => renames_any n xs ys ps v u z W h1 h2 h3 hx hy h4 h5
  have HP : Hid (∀ e w', AlikePost n xs ys w e w' = (match fsome (rankF n xs ys) (fct n) with
    | some zs => ∃ a l c, e = .returned (.tuple #[.slice (some a) l c, .int .i64 0]) ∧ IntsAt w' (.slice (some a) l c) zs ∧ Below w.heap.size w w'
    | none => e = .returned (.tuple #[.slice none 0 0, .int .i64 4]) ∧ Below w.heap.size w w')) := fun e w' => by
    have : fsome (rankF n xs ys) (fct n) = firR n (namB n xs ys) n [] := firR_all n (namB n xs ys) (namB_pre n xs ys)
    rw [this]; rfl
  clear hI hJ hx hy
  have hf := fct_le (show n ≤ 12 by omega)
  go_enter Try.func40, Try.ntmps40
  go_wp2_with fail
  refine (fact_any n _ (by omega)).mono ?_
  rintro e w' ⟨rfl, rfl⟩
  go_wp2_with fail
  go_loopw [7] (fun sk wr => ∃ k : Nat, k ≤ fct n ∧ sk = .int .i64 k ∧ fsome (rankF n xs ys) k = none ∧ Below ((w.alloc (.cells #[.int .i64 n, v] 24)).alloc (.cells #[.int .i64 n, u] 24)).heap.size ((w.alloc (.cells #[.int .i64 n, v] 24)).alloc (.cells #[.int .i64 n, u] 24)) wr) (fun sk _ => fct n - (intOf sk).toNat)
  case atStart => exact ⟨0, by omega, rfl, rfl, Below.refl _ _⟩
  case round =>
    obtain ⟨k, hk, rfl, hN, hb⟩ := hrel
    have HN := Lib.hid hN
    have HB := Lib.hid hb
    obtain ⟨z1, z2, y1, y2, y3, y4⟩ := box2 hb
    clear hN hb
    by_cases hlt : k < fct n
    · have HM := Lib.hid (permOf_mem hlt)
      have HLn := Lib.hid (permOf_len n k)
      have HF : Hid (rankF n xs ys k = oneO (namB n xs ys) (permOf n k)) := rfl
      go_wp2_with fail
      refine (rank_any n k _ hn1 (by omega) hlt).mono ?_
      rintro e w1 ⟨pv, rfl, hown, hb1⟩
      have HB2 := Lib.hid (belowTrans HB.out hb1)
      have HV := Lib.hid (hown.intsAt (by rw [HLn.out]; omega))
      clear y1 y2 y3 y4 z1 z2 hown hb1
      obtain ⟨z1, z2, y1, y2, y3, y4⟩ := box2 HB2.out
      have HC := Lib.hid (HR.out _ _ w1 (HI.out.below HB2.out) (HJ.out.below HB2.out) HV.out HLn.out (fun q hq => HM.out _ (ix_mem hq)))
      obtain ⟨pa, pl, pc, rfl⟩ : ∃ a l c, pv = .slice (some a) l c := by
        obtain ⟨a, c, e, _, _, _, h5⟩ := HV.out
        obtain ⟨b, o, e2, _⟩ := h5 0 (by rw [HLn.out]; omega)
        exact ⟨_, _, _, by rw [e, e2]⟩
      cases e : namB n xs ys (permOf n k)
      · have HF2 : Hid (rankF n xs ys k = none) := by show _ = _; rw [HF.out, oneO, e]; rfl
        rw [e] at HC
        clear e
        go_wp2_with fail
        refine (HC.out).mono ?_
        rintro e w2 ⟨rfl, hb2⟩
        have HB3 := Lib.hid (belowTrans HB2.out hb2)
        clear hb2
        go_wp2_with fail
        go_roundw
        case rel => exact ⟨k + 1, by omega, by go_num, by rw [fsome_next HN.out, HF2.out], HB3.out⟩
        case measure => simp [intOf]; omega
      · have HF2 : Hid (rankF n xs ys k = some (permOf n k)) := by show _ = _; rw [HF.out, oneO, e]; rfl
        rw [e] at HC
        clear e
        go_wp2_with fail
        refine (HC.out).mono ?_
        rintro e w2 ⟨rfl, hb2⟩
        have HV2 := Lib.hid (HV.out.below hb2)
        have HB3 := Lib.hid (belowTrans HB2.out hb2)
        clear hb2
        go_wp2_with fail
        go_ret2
        rw [HP.out, fsome_hit HN.out HF2.out hlt]
        exact ⟨_, _, _, rfl, HV2.out, HB1.out.trans (HB3.out.mono HB1.out.size)⟩
    · obtain rfl : k = fct n := by omega
      go_wp2_with fail
      go_ret2
      rw [HP.out, HN.out]
      exact ⟨rfl, HB1.out.trans (HB.out.mono HB1.out.size)⟩
end Go.Proofs.Ytkmfhnjadpdkeaa
