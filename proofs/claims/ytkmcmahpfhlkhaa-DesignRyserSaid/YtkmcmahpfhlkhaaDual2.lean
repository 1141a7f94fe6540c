/-
  Contract: design.Dual. No condition.
-/
import Derived.Test.YtkmcmahpfhlkhaaDual
import Derived.Test.YtkmcmahpfhlkhaaRes
import Derived.Deep.OwnRows
import Derived.Deep.RegionLaw
import Derived.Deep.AppendLies
namespace Go.Proofs.Ytkmcmahpfhlkhaa
open Go.RowKit

set_option maxRecDepth 100000 in
set_option maxHeartbeats 1000000 in
theorem dual_bad (n : Int) (v : Value) (xss : List (List Int)) (w : World) (h : RowsAt w v xss) (hf : desFault n xss ≠ 0) :
    Calls Try.prog 22 #[.agg #[.int .i64 n, v]] w (DesPostT 0 [] (desFault n xss) w) := by
  have hne := desNe hf
  have HC := Lib.hid (check_any n v xss _ (h.below (belowTrans (below_box w (.cells #[.int .i64 n, v] 24)) (below_box _ (.cells #[.int .i64 0, .slice none 0 0] 24)))))
  have HR := Lib.hid (arr_new w n v 24)
  clear h hf
  generalize desFault n xss = e0 at *
  go_enter Try.func22, Try.ntmps22
  go_wp2_with fail
  refine (HC.out).mono ?_
  rintro e w1 ⟨rfl, hb⟩
  have HR1 := Lib.hid (HR.out.below hb)
  have r0 := HR1.out.cell (show 0 < 2 by omega); have r1 := HR1.out.cell (show 1 < 2 by omega)
  have f0 := HR1.out.free (show 0 < 2 by omega); have f1 := HR1.out.free (show 1 < 2 by omega)
  have HD := Lib.hid (desT_late hb e0)
  have HA := Lib.hid ((HR1.out.set (show 0 < 2 by omega) (.int .i64 0)).set (show 1 < 2 by omega) (.slice none 0 0))
  clear hb
  go_wp2_with fail
  exact bodyPost_ret (results_pairT (p := 2) (u := 3) rfl HA.out Try.underlying24 rfl (by kernel_rfl) rfl) rfl HD.out

set_option maxRecDepth 100000 in
set_option maxHeartbeats 1000000 in
theorem dual_full (n : Nat) (v : Value) (xss : List (List Int)) (w : World) (h : RowsAt w v xss) (hD : IsDes n xss) (hl : 40 < xss.length) :
    Calls Try.prog 22 #[.agg #[.int .i64 n, v]] w (DesPostT 0 [] 3 w) := by
  have HC := Lib.hid (check_any n v xss _ (h.below (belowTrans (below_box w (.cells #[.int .i64 (n : Int), v] 24)) (below_box _ (.cells #[.int .i64 0, .slice none 0 0] 24)))))
  rw [hD.fault] at HC
  have HR := Lib.hid (arr_new w n v 24)
  have HB : Hid (Arr ((w.alloc (.cells #[.int .i64 (n : Int), v] 24)).alloc (.cells #[.int .i64 0, .slice none 0 0] 24)) w.heap.size 2 (fun j => if j = 0 then Value.int .i64 n else v)) := (pair_new _ _ _ _ _ rfl).alloc _
  obtain ⟨a, c, V, rfl, h1, h2, _, h3⟩ := h
  clear h3 hD
  have ed : decide ((40 : Int) < (xss.length : Int)) = true := by simp; omega
  go_enter Try.func22, Try.ntmps22
  go_wp2_with fail
  refine (HC.out).mono ?_
  rintro e w1 ⟨rfl, hb⟩
  have HR1 := Lib.hid (HR.out.below hb)
  have r0 := HR1.out.cell (show 0 < 2 by omega); have r1 := HR1.out.cell (show 1 < 2 by omega)
  have f0 := HR1.out.free (show 0 < 2 by omega); have f1 := HR1.out.free (show 1 < 2 by omega)
  have b1 := (HB.out.below hb).cell (show 1 < 2 by omega)
  have HD := Lib.hid (desT_late hb 3)
  have HA := Lib.hid ((HR1.out.set (show 0 < 2 by omega) (.int .i64 0)).set (show 1 < 2 by omega) (.slice none 0 0))
  clear hb
  go_wp2_with fail
  exact bodyPost_ret (results_pairT (p := 2) (u := 3) rfl HA.out Try.underlying24 rfl (by kernel_rfl) rfl) rfl HD.out

set_option maxRecDepth 100000 in
set_option maxHeartbeats 1000000 in
theorem dual_none (n : Nat) (v : Value) (w : World) (h : RowsAt w v []) (hD : IsDes n []) :
    Calls Try.prog 22 #[.agg #[.int .i64 n, v]] w (DesPostT 0 [] 4 w) := by
  have HC := Lib.hid (check_any n v [] _ (h.below (belowTrans (below_box w (.cells #[.int .i64 (n : Int), v] 24)) (below_box _ (.cells #[.int .i64 0, .slice none 0 0] 24)))))
  rw [hD.fault] at HC
  have HR := Lib.hid (arr_new w n v 24)
  have HB : Hid (Arr ((w.alloc (.cells #[.int .i64 (n : Int), v] 24)).alloc (.cells #[.int .i64 0, .slice none 0 0] 24)) w.heap.size 2 (fun j => if j = 0 then Value.int .i64 n else v)) := (pair_new _ _ _ _ _ rfl).alloc _
  obtain ⟨a, c, V, rfl, h1, h2, _, h3⟩ := h
  clear h3 hD
  go_enter Try.func22, Try.ntmps22
  go_wp2_with fail
  refine (HC.out).mono ?_
  rintro e w1 ⟨rfl, hb⟩
  have HR1 := Lib.hid (HR.out.below hb)
  have r0 := HR1.out.cell (show 0 < 2 by omega); have r1 := HR1.out.cell (show 1 < 2 by omega)
  have f0 := HR1.out.free (show 0 < 2 by omega); have f1 := HR1.out.free (show 1 < 2 by omega)
  have b1 := (HB.out.below hb).cell (show 1 < 2 by omega)
  have HD := Lib.hid (desT_late hb 4)
  have HA := Lib.hid ((HR1.out.set (show 0 < 2 by omega) (.int .i64 0)).set (show 1 < 2 by omega) (.slice none 0 0))
  clear hb
  go_wp2_with fail
  exact bodyPost_ret (results_pairT (p := 2) (u := 3) rfl HA.out Try.underlying24 rfl (by kernel_rfl) rfl) rfl HD.out

theorem du_new {w w1 wr : World} {n : Nat} {dv : Value} {t : TypeId} (hb : Below ((w.alloc (.cells #[.int .i64 (n : Int), dv] t)).alloc (.cells #[.int .i64 0, .slice none 0 0] t)).heap.size ((w.alloc (.cells #[.int .i64 (n : Int), dv] t)).alloc (.cells #[.int .i64 0, .slice none 0 0] t)) w1) {L ab bo : Nat}
    (hbr : Below w1.heap.size w1 wr) (hA : Arr wr ab n (fun _ => .slice none 0 0)) (hO : Arr wr bo 2 (fun j => if j = 0 then .int .i64 (L : Int) else .slice (some ⟨ab, 0, none⟩) n n)) (h1 : w1.heap.size ≤ ab) (h2 : w1.heap.size ≤ bo) (h3 : ab ≠ bo) (h4 : ab < w1.heap.size + 2) (h5 : bo < w1.heap.size + 2) (h6 : w1.heap.size + 2 ≤ wr.heap.size) :
    DuRel w wr ab bo (w1.heap.size + 2) n dv L (fun _ => .slice none 0 0) (fun _ => []) := by
  have hz := hb.size
  simp only [World.size_alloc] at hz
  have hb2 := belowTrans hb hbr
  exact ⟨((pair_new w _ _ _ _ rfl).alloc _).below hb2, (pair_new _ _ _ _ _ (by simp)).below hb2, hO, hA, fun j _ => own_nil _ _ _, fun i j _ _ _ => .inl rfl, by omega, by omega, h3, h4, h5, h6,
    ((below_box w _).trans ((below_box _ _).mono (by simp))).trans (hb2.mono (by simp; omega))⟩
set_option maxRecDepth 100000 in
set_option maxHeartbeats 2000000 in
theorem dual_any (n : Nat) (v : Value) (xss : List (List Int)) (w : World) (h : RowsAt w v xss) (hD : IsDes n xss) (hl40 : xss.length ≤ 40) (hl0 : 0 < xss.length) :
    Calls Try.prog 22 #[.agg #[.int .i64 n, v]] w (DesPostT xss.length (dualL n xss) 0 w) := by
  obtain ⟨i0, hi0, hz0, hz1, hz2⟩ := info_parts info_int
  have HC := Lib.hid (check_any n v xss _ (h.below (belowTrans (below_box w (.cells #[.int .i64 (n : Int), v] 24)) (below_box _ (.cells #[.int .i64 0, .slice none 0 0] 24)))))
  rw [hD.fault] at HC
  have HDes := Lib.hid hD
  have hn := hD.hi
  have hn1 := hD.lo
  clear hD
  have HB : Hid (Arr ((w.alloc (.cells #[.int .i64 (n : Int), v] 24)).alloc (.cells #[.int .i64 0, .slice none 0 0] 24)) w.heap.size 2 (fun j => if j = 0 then Value.int .i64 n else v)) := (pair_new _ _ _ _ _ rfl).alloc _
  obtain ⟨a, c, V0, rfl, h1, h2, _, h3⟩ := h
  have HX := Lib.hid h3; clear h3
  have ed : decide ((40 : Int) < (xss.length : Int)) = false := by simp; omega
  have ed2 : ((xss.length : Int) == 0) = false := by simp; intro e; rw [e] at hl0; exact absurd hl0 (by simp)
  obtain ⟨MC, hMC⟩ : ∃ MC, MC = madeCells #[Value.slice none 0 0] n := ⟨_, rfl⟩
  have hmk := fun W => run_make_row' (P := Try.prog) 22 27 (.slice none 0 0) 24 Try.underlying22 info_list rfl .i64 .i64 n (by omega) (by omega) W
  rw [← hMC] at hmk
  have hMC2 := hMC
  rw [madeCells_one] at hMC2
  have HMC := Lib.hid hMC2
  clear hMC hMC2
  go_enter Try.func22, Try.ntmps22
  go_wp2_with fail
  refine (HC.out).mono ?_
  rintro e w1 ⟨rfl, hb⟩
  have b0 := (HB.out.below hb).cell (show 0 < 2 by omega); have b1 := (HB.out.below hb).cell (show 1 < 2 by omega)
  have hzs := hb.size
  simp only [World.size_alloc] at hzs
  have hz3 : w.heap.size < w1.heap.size := by omega
  have hz4 : w.heap.size + 1 < w1.heap.size := by omega
  have HBB := Lib.hid hb
  clear hb HB hzs HC
  go_wp2_with fail
  go_region
  all_goals
    clear hmk ed ed2
    obtain ⟨W1, hW1⟩ : ∃ W1, W1 = ((w1.alloc (.cells MC 27)).alloc (.cells #[.int .i64 (xss.length : Int), .slice (some ⟨w1.heap.size, 0, none⟩) n n] 24)).drew := ⟨_, rfl⟩
    obtain ⟨W2, hW2⟩ : ∃ W2, W2 = ((w1.alloc (.cells #[.int .i64 (xss.length : Int), .slice (some ⟨w1.heap.size + 1, 0, none⟩) n n] 24)).alloc (.cells MC 27)).drew := ⟨_, rfl⟩
    have HA : Hid (DuRel w W1 w1.heap.size (w1.heap.size + 1) (w1.heap.size + 2) n (.slice a xss.length c) xss.length (fun _ => .slice none 0 0) (fun _ => [])) := by
      show DuRel _ _ _ _ _ _ _ _ _ _
      rw [hW1]
      exact du_new HBB.out ((below_box w1 _).trans ((below_box _ _).mono (by simp))).drew ((Arr.newAt w1 n _ _ _ _ rfl HMC.out).alloc _) (pair_new _ _ _ _ _ (by simp)) (Nat.le_refl _) (by omega) (by omega) (by omega) (by omega) (by simp)
    have HB : Hid (DuRel w W2 (w1.heap.size + 1) w1.heap.size (w1.heap.size + 2) n (.slice a xss.length c) xss.length (fun _ => .slice none 0 0) (fun _ => [])) := by
      show DuRel _ _ _ _ _ _ _ _ _ _
      rw [hW2]
      exact du_new HBB.out ((below_box w1 _).trans ((below_box _ _).mono (by simp))).drew (Arr.newAt _ n _ _ _ _ (by simp) HMC.out) ((pair_new w1 _ _ _ _ rfl).alloc _) (by omega) (Nat.le_refl _) (by omega) (by omega) (by omega) (by simp)
    clear HBB HMC
    generalize w1.heap.size + 2 = B at HA HB
    first
    | (rw [← hW1]; clear hW1 hW2 HB W2; have HR := HA; clear HA; generalize w1.heap.size + 1 = bo at HR ⊢; generalize w1.heap.size = ab at HR ⊢)
    | (rw [← hW2]; clear hW1 hW2 HA W1; have HR := HB; clear HB; generalize w1.heap.size + 1 = ab at HR ⊢; generalize w1.heap.size = bo at HR ⊢)
    have b0 := HR.out.box.cell (show 0 < 2 by omega); have b1 := HR.out.box.cell (show 1 < 2 by omega)
    have HR0 := Lib.hid (HR.out.congr (G := dualF xss 0 0) (fun j _ => (dualF_zero xss 0 j).symm)); clear HR
    go_wp2_with fail
    clear b0 b1
    go_loopw [38] (fun s wr => ∃ (k : Nat) (V : Nat → Value), k ≤ xss.length ∧ s = .int .i64 k ∧ DuRel w wr ab bo B n (.slice a xss.length c) xss.length V (dualF xss k 0)) (fun s _ => xss.length - (intOf s).toNat)
    case atStart => exact ⟨0, _, by omega, rfl, HR0.out⟩
    case round =>
      clear HR0
      obtain ⟨k, V, hk, rfl, hR⟩ := hrel
      rename World => W0
      have HR := Lib.hid hR
      have o0 := hR.out.cell (show 0 < 2 by omega); have o1 := hR.out.cell (show 1 < 2 by omega)
      have r0 := hR.res.cell (show 0 < 2 by omega); have r1 := hR.res.cell (show 1 < 2 by omega)
      have f0 := hR.res.free (show 0 < 2 by omega); have f1 := hR.res.free (show 1 < 2 by omega)
      clear hR
      by_cases hlt : k < xss.length
      · obtain ⟨hrow, b, o, rfl, hb, hc⟩ := HX.out k hlt
        have hcell := hc k hlt
        rw [← (bcell HR.out.bel).1 _ _ hb] at hcell
        clear hc
        have hbl := HDes.out.all k hlt
        have HBl := Lib.hid hbl
        obtain ⟨ra, rc, hV, q1, q2, _, hqq⟩ := id hrow
        rw [hV] at hcell
        have HQ := Lib.hid hqq
        clear hV hrow hqq hbl
        go_wp2_with fail
        clear o0 o1 r0 r1 f0 f1 hcell
        go_loopw [45] (fun s wr2 => ∃ (x : Nat) (V : Nat → Value), x ≤ (rx xss k).length ∧ s = .int .i64 x ∧ DuRel w wr2 ab bo B n (.slice (some ⟨b, o, none⟩) xss.length c) xss.length V (dualF xss k x)) (fun s _ => (rx xss k).length - (intOf s).toNat)
        case atStart => exact ⟨0, V, by omega, rfl, HR.out⟩
        case round =>
          obtain ⟨x, V, hx, rfl, hR2⟩ := hrel
          have HR2 := Lib.hid hR2; clear hR2
          by_cases hxn : x < (rx xss k).length
          · obtain ⟨b2, o2, rfl, hb2, hc2⟩ := HQ.out x hxn
            have c1 := hc2 x hxn
            rw [← (bcell HR2.out.bel).1 _ _ hb2] at c1
            have hy := HBl.out.rng x hxn
            clear hc2
            obtain ⟨p, hp⟩ : ∃ p : Nat, ix (rx xss k) x = p := Int.eq_ofNat_of_zero_le hy.1
            have hpn : p < n := by omega
            have HNx := Lib.hid (dualF_next HBl.out hxn hp)
            rw [hp] at c1
            clear hy hp
            have o1 := HR2.out.out.cell (show 1 < 2 by omega)
            have a0 := HR2.out.arr.cell hpn; have a1 := HR2.out.arr.free hpn
            have i1 : ((p : Nat) : Int) < ((n : Nat) : Int) := by omega
            have hVb := (HR2.out.row p hpn).block
            have hO := HR2.out.row p hpn
            have hz6 := HR2.out.size
            have hi1 := HR2.out.hi1
            have hi2 := HR2.out.hi2
            have hFl := dualF_len (xss := xss) (k := k) (x := x) (j := p)
            have hnab : some ab ≠ (V p).ownBlock := fun e => by have := (hVb ab e.symm).1; omega
            have hnbo : some bo ≠ (V p).ownBlock := fun e => by have := (hVb bo e.symm).1; omega
            have hab : ab < wr.heap.size := by omega
            have hbo : bo < wr.heap.size := by omega
            have hne1 : ¬ ab = wr.heap.size := by omega
            have hne2 : ¬ bo = wr.heap.size := by omega
            go_wp2_with fail
            go_region_law ((refine step_append_lies _ (by rfl) _ _ _ (by rfl) B 3 i0 _ 1 8 Try.underlying27 hi0 hz0 hz1 hz2 rfl (by omega) (V p) (dualF xss k x p).length (cellsOf (dualF xss k x p)) (by rfl) (Own.alloc hO _) ⟨wr.heap.size, 0, none⟩ 1 1 [.int .i64 k] (by rfl) rfl (news_one (World.cell?_alloc_new _ _ _ 0)) (by simp [Value.oneCell']) (by omega) (by unfold maxLen; omega) (by omega) (Nat.le_trans hz6 (by simp)) (wr.heap.size + 1) (by simp) ?_; intro g cap w3 hown1 hgrow hat hlt3; have y1 := (hgrow.cell_far ⟨ab, p, none⟩ (by simp; omega) hnab).trans ((World.cell?_alloc_old wr _ ⟨ab, p, none⟩ hne1).trans a0); have y3 := (hgrow.cell_far ⟨bo, 1, none⟩ (by simp; omega) hnbo).trans ((World.cell?_alloc_old wr _ ⟨bo, 1, none⟩ hne2).trans o1); have y2 := (hgrow.frozen_far ⟨ab, p, none⟩ (by simp; omega) hnab).trans ((World.frozen?_alloc_old wr _ ⟨ab, p, none⟩ hne1).trans a1)))
            all_goals
              have HP := Lib.hid ((HR2.out.push (w1 := (wr.alloc (.cells #[.int .i64 (k : Int)] 3)).drew) (below_box _ _).drew hpn (v' := .slice (some ⟨g, 0, none⟩) ((dualF xss k x p).length + 1) cap) (ys := dualF xss k x p ++ [(k : Int)]) (by unfold Own; rw [cellsOf_snoc, List.length_append]; exact hown1) hgrow (hat.elim (fun e => .inl e) (fun e => .inr ⟨g, rfl, by omega⟩))).congr (G := dualF xss k (x + 1)) (fun j _ => by rw [HNx.out j]; rfl))
              clear hown1 hgrow hat hlt3 y1 y2 y3 o1 a0 a1 hVb hO
              go_wp2_with fail
              go_roundw
              case rel => exact ⟨x + 1, _, by omega, by go_num, HP.out⟩
              case measure => simp [intOf]; omega
          · have hxN : x = (rx xss k).length := by omega
            have HF := Lib.hid (HR2.out.congr (G := dualF xss (k + 1) 0) (fun j _ => by rw [hxN, dualF_full, dualF_zero]))
            clear hxN
            go_wp2_with fail
            go_roundw
            case rel => exact ⟨k + 1, V, by omega, by go_num, HF.out⟩
            case measure => simp [intOf]; omega
      · obtain rfl : k = xss.length := by omega
        have HF := Lib.hid (HR.out.fin (by omega) (fun j _ => by have := dualF_len (xss := xss) (k := xss.length) (x := 0) (j := j); omega))
        have HL := Lib.hid HR.out.last
        have HD : Hid (rowsTo (dualF xss xss.length 0) n = dualL n xss) := by show _ = _; exact rowsTo_congr fun j _ => dualF_zero xss xss.length j
        rw [HD.out] at HF
        go_wp2_with fail
        exact bodyPost_ret (results_pairT (p := 2) (u := 3) rfl HL.out Try.underlying24 rfl (by kernel_rfl) rfl) rfl HF.out
end Go.Proofs.Ytkmcmahpfhlkhaa
