/-
  Contract: latin.Orthogonal. No condition.
-/
import Derived.Test.YtdbfpdhcaiiiaaaDoorLatin4
namespace Go.Proofs.YtdbfpdhcaiiiaaaDoor
open Go.RowKit

set_option maxHeartbeats 1000000 in
theorem orth_any (s t : Int) (v u : Value) (xs ys : List Int) (w : World) (h : IntsAt w v xs) (g : IntsAt w u ys) :
    Calls Tryd.prog 13 #[.agg #[.int .i64 s, v], .agg #[.int .i64 t, u]] w fun e w' =>
      e = .returned (.tuple #[.bool (orthFault s xs t ys == 0 && orthB xs ys), .int .i64 (orthFault s xs t ys)]) ∧ Below w.heap.size w w' := by
  have hI := h
  have gI := g
  obtain ⟨a, c, rfl, h1, h2, _, h3⟩ := h
  obtain ⟨a', c', rfl, g1, g2, _, g3⟩ := g
  have HBW := Lib.hid (belowTrans (below_box w (.cells #[.int .i64 s, .slice a xs.length c] 26)) (below_box _ (.cells #[.int .i64 t, .slice a' ys.length c'] 26)))
  cases e1 : (latinFault s xs != 0)
  · cases e2 : (latinFault t ys != 0)
    · cases e3 : (s != t)
      · have hs : s = t := by simpa using e3
        subst hs
        have Hf : Hid (orthFault s xs s ys = 0) := by show _ = _; rw [orthFault, if_neg (by simpa using e1), if_neg (by simpa using e2), if_neg (by simp)]
        have Hf2 : Hid ((orthFault s xs s ys == 0 && orthB xs ys) = orthB xs ys) := by show _ = _; rw [Hf.out]; rfl
        have La := latin_of (by simpa using e1 : latinFault s xs = 0)
        have Lb := latin_of (by simpa using e2 : latinFault s ys = 0)
        have hlen : xs.length = ys.length := by have := La.len; have := Lb.len; omega
        have hlen1 : xs.length ≤ ys.length := by omega
        have Hlen := Lib.hid hlen; clear hlen
        have hx : Hid (∀ k, k < xs.length → 0 ≤ ix xs k ∧ ix xs k < 8) := fun k hk => by have := La.rng k hk; have := La.hi; omega
        have hy : Hid (∀ k, k < ys.length → 0 ≤ ix ys k ∧ ix ys k < 8) := fun k hk => by have := Lb.rng k hk; have := La.hi; omega
        clear La Lb
        go_enter Tryd.func13, Tryd.ntmps13
        go_wp2_with fail
        refine (check_any _ _ xs _ (hI.below HBW.out)).mono ?_
        rintro e w1 ⟨rfl, hb1⟩
        obtain ⟨hc1, hf1⟩ := bcell hb1
        go_wp2_with fail
        refine (check_any _ _ ys _ ((gI.below HBW.out).below hb1)).mono ?_
        rintro e w2 ⟨rfl, hb2⟩
        have hb02 := belowTrans hb1 hb2
        clear hc1 hf1 hb1 hb2
        have Hb02 := Lib.hid (belowTrans HBW.out hb02)
        obtain ⟨hc2, hf2⟩ := bcell hb02
        have hz2 : w.heap.size + 1 < w2.heap.size := by have := hb02.size; simp at this; omega
        have hz3 : w.heap.size < w2.heap.size := by omega
        have k1 : w2.cell? ⟨w.heap.size, 1, none⟩ = some (.slice a xs.length c) := by rw [hc2 _ _ (by simp; omega)]; go_simp
        have k2 : w2.cell? ⟨w.heap.size + 1, 1, none⟩ = some (.slice a' ys.length c') := by rw [hc2 _ _ (by simp)]; go_simp
        have k3 : w2.cell? ⟨w.heap.size, 0, none⟩ = some (.int .i64 s) := by rw [hc2 _ _ (by simp; omega)]; go_simp
        have k4 : w2.cell? ⟨w.heap.size + 1, 0, none⟩ = some (.int .i64 s) := by rw [hc2 _ _ (by simp)]; go_simp
        clear hc2 hf2 hb02
        go_wp2
        go_loopw [30] (fun i wr => ∃ k : Nat, k ≤ xs.length ∧ i = .int .i64 k ∧ pairTo xs ys k = false ∧ Below w2.heap.size w2 wr ∧ Flags wr w2.heap.size 64 (pairSeen xs ys k)) (fun i _ => xs.length - (intOf i).toNat)
        case atStart => exact ⟨0, by omega, rfl, rfl, below_box _ _, Arr.newAt _ 64 _ _ _ _ rfl rfl⟩
        case round =>
          obtain ⟨k, hk, rfl, hn, hb, hfr⟩ := hrel
          have Hn := Lib.hid hn; clear hn
          by_cases hlt : k < xs.length
          · obtain ⟨b, o, rfl, hbb, hc⟩ := h3 k hlt
            obtain ⟨b', o', rfl, hbb', hc'⟩ := g3 k (by omega)
            have hbw : b < w2.heap.size := by omega
            have hbw' : b' < w2.heap.size := by omega
            have hcell := hc k hlt
            have hcell' := hc' k (by omega)
            have hlt' : k < ys.length := by omega
            clear hc h3 hc' g3
            have hBw := belowTrans Hb02.out (Below.refl _ w2)
            rw [← Hb02.out.cell (p := ⟨b, o + k, none⟩) hbb, ← hb.cell (p := ⟨b, o + k, none⟩) hbw] at hcell
            rw [← Hb02.out.cell (p := ⟨b', o' + k, none⟩) hbb', ← hb.cell (p := ⟨b', o' + k, none⟩) hbw'] at hcell'
            rw [← hb.cell (p := ⟨w.heap.size, 1, none⟩) hz3] at k1
            rw [← hb.cell (p := ⟨w.heap.size + 1, 1, none⟩) hz2] at k2
            clear k3 k4 hBw
            have hxb := hx.out k hlt
            have hyb := hy.out k hlt'
            have hseen := pairSeen_row k (fun j hj => hx.out j (by omega)) (fun j hj => hy.out j (by omega)) k (Nat.le_refl _)
            have Hr : Hid (Flags wr w2.heap.size 64 (pairSeen xs ys k)) := hfr
            clear hfr
            obtain ⟨x, hxk⟩ : ∃ x : Nat, ix xs k = x := Int.eq_ofNat_of_zero_le hxb.1
            obtain ⟨y, hyk⟩ : ∃ y : Nat, ix ys k = y := Int.eq_ofNat_of_zero_le hyb.1
            have Hs1 : Hid (∀ j, pairSeen xs ys (k + 1) j = (pairSeen xs ys k j || x * 8 + y == j)) := fun j => by rw [pairSeen, hxk, hyk]; rfl
            rw [hxk] at hxb hcell hseen
            rw [hyk] at hyb hcell' hseen
            simp only [Int.toNat_natCast] at hseen
            have Hseen := Lib.hid hseen
            clear hseen hxk hyk
            have r1 : wr.cell? ⟨w2.heap.size, x * 8 + y, none⟩ = _ := Arr.cell Hr.out (by omega)
            have r2 : wr.frozen? ⟨w2.heap.size, x * 8 + y, none⟩ = _ := Arr.free Hr.out (by omega)
            cases e4 : pairSeen xs ys k (x * 8 + y)
            · rw [e4] at r1
              have Hno : Hid (pairRow xs ys k k = false) := by rw [← Hseen.out, e4]; rfl
              clear e4
              go_wp2
              clear r1 r2
              go_roundw
              case rel =>
                refine ⟨k + 1, by omega, by go_num, by rw [pairTo, Hn.out, Hno.out]; rfl, hb.setCell (Nat.le_refl _) _, ?_⟩
                exact Arr.congr (Flags.set Hr.out (show x * 8 + y < 64 by omega)) (fun j _ => by rw [Hs1.out j])
              case measure => simp [intOf]; omega
            · rw [e4] at r1
              have Hno : Hid (pairRow xs ys k k = true) := by rw [← Hseen.out, e4]; rfl
              clear e4
              go_wp2
              go_ret2
              exact ⟨ret_tup2 (by rw [Hf2.out, orth_hit2 hlt Hno.out]; rfl) (by rw [Hf.out]; rfl), belowTrans Hb02.out hb⟩
          · obtain rfl : k = xs.length := by omega
            go_wp2
            go_ret2
            exact ⟨ret_tup2 (by rw [Hf2.out, orthB, Hn.out]; rfl) (by rw [Hf.out]; rfl), belowTrans Hb02.out hb⟩
      · have hs : ¬ s = t := by simpa using e3
        have Hf : Hid (orthFault s xs t ys = 2) := by show _ = _; rw [orthFault, if_neg (by simpa using e1), if_neg (by simpa using e2), if_pos hs]
        have Hf2 : Hid ((orthFault s xs t ys == 0 && orthB xs ys) = false) := by show _ = _; rw [Hf.out]; rfl
        clear hs
        go_enter Tryd.func13, Tryd.ntmps13
        go_wp2_with fail
        refine (check_any _ _ xs _ (hI.below HBW.out)).mono ?_
        rintro e w1 ⟨rfl, hb1⟩
        obtain ⟨hc1, hf1⟩ := bcell hb1
        go_wp2_with fail
        refine (check_any _ _ ys _ ((gI.below HBW.out).below hb1)).mono ?_
        rintro e w2 ⟨rfl, hb2⟩
        have hb02 := belowTrans hb1 hb2
        clear hc1 hf1 hb1 hb2
        have Hb02 := Lib.hid (belowTrans HBW.out hb02)
        obtain ⟨hc2, hf2⟩ := bcell hb02
        have k3 : w2.cell? ⟨w.heap.size, 0, none⟩ = some (.int .i64 s) := by rw [hc2 _ _ (by simp; omega)]; go_simp
        have k4 : w2.cell? ⟨w.heap.size + 1, 0, none⟩ = some (.int .i64 t) := by rw [hc2 _ _ (by simp)]; go_simp
        clear hc2 hf2 hb02
        go_wp2
        go_ret2
        exact ⟨ret_tup2 (by rw [Hf2.out]; rfl) (by rw [Hf.out]; rfl), Hb02.out⟩
    · have Hf : Hid (orthFault s xs t ys = latinFault t ys) := by show _ = _; rw [orthFault, if_neg (by simpa using e1), if_pos (by simpa using e2)]
      have Hf2 : Hid ((orthFault s xs t ys == 0 && orthB xs ys) = false) := by show _ = _; rw [Hf.out]; simp at e2; simp [e2]
      go_enter Tryd.func13, Tryd.ntmps13
      go_wp2_with fail
      refine (check_any _ _ xs _ (hI.below HBW.out)).mono ?_
      rintro e w1 ⟨rfl, hb1⟩
      obtain ⟨hc1, hf1⟩ := bcell hb1
      go_wp2_with fail
      refine (check_any _ _ ys _ ((gI.below HBW.out).below hb1)).mono ?_
      rintro e w2 ⟨rfl, hb2⟩
      go_wp2
      go_ret2
      exact ⟨ret_tup2 (by rw [Hf2.out]; rfl) (by rw [Hf.out]; rfl), belowTrans HBW.out (belowTrans hb1 hb2)⟩
  · have Hf : Hid (orthFault s xs t ys = latinFault s xs) := by show _ = _; rw [orthFault, if_pos (by simpa using e1)]
    have Hf2 : Hid ((orthFault s xs t ys == 0 && orthB xs ys) = false) := by show _ = _; rw [Hf.out]; simp at e1; simp [e1]
    go_enter Tryd.func13, Tryd.ntmps13
    go_wp2_with fail
    refine (check_any _ _ xs _ (hI.below HBW.out)).mono ?_
    rintro e w1 ⟨rfl, hb1⟩
    go_wp2
    go_ret2
    exact ⟨ret_tup2 (by rw [Hf2.out]; rfl) (by rw [Hf.out]; rfl), belowTrans HBW.out hb1⟩

end Go.Proofs.YtdbfpdhcaiiiaaaDoor
