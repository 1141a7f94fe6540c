/-
  Contract: the reference's Renames, AlikeOf. No condition.
-/
import Derived.StillTailTactics
import Derived.Test.YtkmfhnjadpdkeaaAlike
import Derived.Test.YtkmfhnjadpdkeaaRank
namespace Go.Proofs.Ytkmfhnjadpdkeaa
open Go.RowKit

set_option maxRecDepth 100000 in
set_option maxHeartbeats 4000000 in
theorem renames_any (n : Nat) (xs ys ps : List Int) (v u z : Value) (w : World) (hI : IntsAt w v xs) (hJ : IntsAt w u ys) (hK : IntsAt w z ps) (hx : IsLatin n xs) (hy : IsLatin n ys) (hl : ps.length = n)
    (hp : ∀ k, k < ps.length → 0 ≤ ix ps k ∧ ix ps k < n) :
    Calls Try.prog 46 #[.agg #[.int .i64 n, v], .agg #[.int .i64 n, u], z] w fun e w' => e = .returned (.bool (namB n xs ys ps)) ∧ Below w.heap.size w w' := by
  have HB1 := Lib.hid ((below_box w (.cells #[.int .i64 n, v] 24)).trans ((below_box _ (.cells #[.int .i64 n, u] 24)).mono (by simp)))
  have HI := Lib.hid (hI.below HB1.out)
  have HJ := Lib.hid (hJ.below HB1.out)
  have HK := Lib.hid (hK.below HB1.out)
  have HLX := Lib.hid hx; have HLY := Lib.hid hy
  have hn8 : n ≤ 8 := by have := hx.hi; omega
  have HP := Lib.hid hp
  have HL := Lib.hid hl
  obtain ⟨pa, pc, rfl, p1, p2, _, _⟩ := hK
  rw [hl]
  clear hI hJ hx hy hp hl
  have HKc : Hid (∀ W, Below ((w.alloc (.cells #[.int .i64 n, v] 24)).alloc (.cells #[.int .i64 n, u] 24)).heap.size ((w.alloc (.cells #[.int .i64 n, v] 24)).alloc (.cells #[.int .i64 n, u] 24)) W → IntsAt W (.slice pa ps.length pc) ps) := fun W hW => HK.out.below hW
  rw [HL.out] at HKc
  go_enter Try.func46, Try.ntmps46
  go_wp2_with fail
  go_loopw [7] (fun sx wr => ∃ x : Nat, x ≤ n ∧ sx = .int .i64 x ∧ (∀ x', x' < x → namX n xs ys ps x' = true) ∧ Below ((w.alloc (.cells #[.int .i64 n, v] 24)).alloc (.cells #[.int .i64 n, u] 24)).heap.size ((w.alloc (.cells #[.int .i64 n, v] 24)).alloc (.cells #[.int .i64 n, u] 24)) wr) (fun sx _ => n - (intOf sx).toNat)
  case atStart => exact ⟨0, by omega, rfl, fun x' h => by omega, Below.refl _ _⟩
  case round =>
    obtain ⟨x, hx, rfl, hA, hb⟩ := hrel
    have HA := Lib.hid hA
    have HB := Lib.hid hb
    obtain ⟨z1, z2, y1, y2, y3, y4⟩ := box2 hb
    clear hA hb
    by_cases hlt : x < n
    · go_wp2_with fail
      clear y1 y2 y3 y4 z1 z2
      go_loopw [8] (fun sy wr => ∃ y : Nat, y ≤ n ∧ sy = .int .i64 y ∧ (∀ y', y' < y → namP n xs ys ps x y' = true) ∧ Below ((w.alloc (.cells #[.int .i64 n, v] 24)).alloc (.cells #[.int .i64 n, u] 24)).heap.size ((w.alloc (.cells #[.int .i64 n, v] 24)).alloc (.cells #[.int .i64 n, u] 24)) wr) (fun sy _ => n - (intOf sy).toNat)
      case atStart => exact ⟨0, by omega, rfl, fun y' h => by omega, HB.out⟩
      case round =>
        clear HB
        obtain ⟨y, hy, rfl, hA2, hb⟩ := hrel
        have HA2 := Lib.hid hA2
        have HB := Lib.hid hb
        obtain ⟨z1, z2, y1, y2, y3, y4⟩ := box2 hb
        clear hA2 hb
        by_cases hly : y < n
        · have hzn := qn_lt HLX.out hlt hly
          have hPx := HP.out x (by rw [HL.out]; exact hlt)
          have hPy := HP.out y (by rw [HL.out]; exact hly)
          have HE : Hid (namP n xs ys ps x y = (qn n ys (pn ps x) (pn ps y) == pn ps (qn n xs x y))) := by
            show _ = _
            unfold namP
            rw [HL.out, decide_eq_true hzn]; rfl
          obtain ⟨px, hpx⟩ : ∃ px : Nat, pn ps x = px := ⟨_, rfl⟩
          obtain ⟨py, hpy⟩ : ∃ py : Nat, pn ps y = py := ⟨_, rfl⟩
          have epx : ix ps x = (px : Int) := by unfold pn at hpx; omega
          have epy : ix ps y = (py : Int) := by unfold pn at hpy; omega
          have hpx1 : px < n := by omega
          have hpy1 : py < n := by omega
          have HAt : Hid (∀ W, IntsAt W v xs → Calls Try.prog 18 #[.agg #[.int .i64 n, v], .int .i64 x, .int .i64 y] W fun e w' => e = .returned (.int .i64 (qn n xs x y : Nat)) ∧ Below W.heap.size W w') := fun W hW => at_lat HLX.out hlt hly v W hW
          have HAu : Hid (∀ W, IntsAt W u ys → Calls Try.prog 18 #[.agg #[.int .i64 n, u], .int .i64 px, .int .i64 py] W fun e w' => e = .returned (.int .i64 (qn n ys px py : Nat)) ∧ Below W.heap.size W w') := fun W hW => at_lat HLY.out hpx1 hpy1 u W hW
          rw [hpx, hpy] at HE
          go_wp2_with fail
          refine (HAt.out _ (HI.out.below HB.out)).mono ?_
          rintro e w1 ⟨rfl, hb1⟩
          have HB2 := Lib.hid (belowTrans HB.out hb1)
          clear hb1 y1 y2 y3 y4 z1 z2
          obtain ⟨z1, z2, y1, y2, y3, y4⟩ := box2 HB2.out
          have hKw := HKc.out _ HB2.out
          obtain ⟨_, _, ev, _, _, _, hcc⟩ := hKw
          injection ev with ev1 ev2 ev3
          subst ev1; subst ev3
          clear ev2
          obtain ⟨b, o, rfl, hbb, hc⟩ := hcc x (by rw [HL.out]; exact hlt)
          have cx := hc x (by rw [HL.out]; exact hlt)
          have cy := hc y (by rw [HL.out]; exact hly)
          rw [epx] at cx; rw [epy] at cy
          have HZ := Lib.hid (hc (qn n xs x y) (by rw [HL.out]; exact hzn))
          have hpz := HP.out (qn n xs x y) (by rw [HL.out]; exact hzn)
          obtain ⟨pz, hpz2⟩ : ∃ pz : Nat, pn ps (qn n xs x y) = pz := ⟨_, rfl⟩
          have epz : ix ps (qn n xs x y) = (pz : Int) := by unfold pn at hpz2; omega
          rw [epz] at HZ
          rw [hpz2] at HE
          have HU1 : Hid (IntsAt w1 u ys) := HJ.out.below HB2.out
          have HBz : Hid (b < w1.heap.size) := hbb
          clear hc hcc epx epy epz hpx hpy hpz hpz2 hPx hPy hbb
          generalize hq : qn n xs x y = q at *
          clear hq
          generalize hq : qn n ys px py = r at *
          clear hq
          have i1 : ((x : Nat) : Int) < ((n : Nat) : Int) := by omega
          have i2 : ((y : Nat) : Int) < ((n : Nat) : Int) := by omega
          have ed : (((r : Nat) : Int) != ((pz : Nat) : Int)) = !(r == pz) := by rw [Bool.eq_iff_iff]; simp; omega
          have hqn := hzn
          go_wp2_with fail
          go_still_tail 9, (by kernel_rfl)
          change wpList _ _ _ _ _ w1.drew
          clear cx cy i1 i2
          cases e : (r == pz)
          all_goals
            rw [e] at ed HE
            clear e
            go_wp2_with fail
            refine (HAu.out w1.drew HU1.out).mono ?_
            rintro e w2 ⟨rfl, hb2⟩
            have HB3 := Lib.hid (belowTrans HB2.out.drew hb2)
            have cz : w2.cell? ⟨b, o + q, none⟩ = some (.int .i64 (pz : Int)) := by rw [(bcell hb2).1 _ _ HBz.out]; exact HZ.out
            clear hb2
            go_wp2_with fail
          · go_ret
            have hX : namX n xs ys ps x = false := allTo_hit (by rw [HL.out]; exact hly) HE.out
            have hNo : namB n xs ys ps = false := allTo_hit (by rw [HL.out]; exact hlt) hX
            exact ⟨ret_bool hNo.symm, HB1.out.trans (HB3.out.mono HB1.out.size)⟩
          · go_roundw
            case rel => exact ⟨y + 1, by omega, by go_num, (fun y' h => by
              by_cases e : y' = y
              · subst e; exact HE.out
              · exact HA2.out y' (by omega)), HB3.out⟩
            case measure => simp [intOf]; omega
        · obtain rfl : y = n := by omega
          have HAx : Hid (namX y xs ys ps x = true) := allTo_iff.2 (fun y' h => HA2.out y' (by rw [HL.out] at h; exact h))
          go_wp2_with fail
          go_roundw
          case rel => exact ⟨x + 1, by omega, by go_num, (fun x' h => by
            by_cases e : x' = x
            · subst e; exact HAx.out
            · exact HA.out x' (by omega)), HB.out⟩
          case measure => simp [intOf]; omega
    · obtain rfl : x = n := by omega
      have HAll : Hid (namB x xs ys ps = true) := allTo_iff.2 (fun x' h => HA.out x' (by rw [HL.out] at h; exact h))
      go_wp2_with fail
      go_ret
      exact ⟨ret_bool HAll.out.symm, HB1.out.trans (HB.out.mono HB1.out.size)⟩
end Go.Proofs.Ytkmfhnjadpdkeaa
