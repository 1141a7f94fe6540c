/-
  Contract: design.Residual at a block. No condition.
-/
import Derived.Test.YtkmcmahpfhlkhaaRes
namespace Go.Proofs.Ytkmcmahpfhlkhaa
open Go.RowKit

set_option maxRecDepth 100000 in
set_option maxHeartbeats 1000000 in
theorem res_any (n q : Nat) (v : Value) (xss : List (List Int)) (w : World) (h : RowsAt w v xss) (hD : IsDes n xss) (hq : q < xss.length) :
    Calls Try.prog 24 #[.agg #[.int .i64 n, v], .int .i64 q] w (ResPost n q xss w) := by
  obtain ⟨i0, hi0, hz0, hz1, hz2⟩ := info_parts info_int
  have HC := Lib.hid (check_any n v xss _ (h.below (belowTrans (below_box w (.cells #[.int .i64 (n : Int), v] 24)) (below_box _ (.cells #[.int .i64 0, .slice none 0 0] 24)))))
  rw [hD.fault] at HC
  have HDes := Lib.hid hD
  have HLaw := Lib.hid (res_law (q := q) hD)
  have hn := hD.hi
  have hn1 := hD.lo
  have hl := hD.few
  clear hD
  have HB : Hid (Arr ((w.alloc (.cells #[.int .i64 (n : Int), v] 24)).alloc (.cells #[.int .i64 0, .slice none 0 0] 24)) w.heap.size 2 (fun j => if j = 0 then Value.int .i64 n else v)) := (pair_new _ _ _ _ _ rfl).alloc _
  obtain ⟨a, c, V, rfl, h1, h2, _, h3⟩ := h
  have HX := Lib.hid h3; clear h3
  have e1 : decide ((q : Int) < 0) = false := by simp
  have e2 : decide (xss.length ≤ q) = false := by simp; omega
  obtain ⟨hrowq, bq, oq, rfl, hbq, hcq⟩ := HX.out q hq
  have hcellq := hcq q hq
  clear hcq
  obtain ⟨qa, qc, hVq, _⟩ := id hrowq
  rw [hVq] at hcellq hrowq
  have HRowQ := Lib.hid hrowq
  clear hVq hrowq
  go_enter Try.func24, Try.ntmps24
  go_wp2_with fail
  refine (HC.out).mono ?_
  rintro e w1 ⟨rfl, hb⟩
  have b0 := (HB.out.below hb).cell (show 0 < 2 by omega); have b1 := (HB.out.below hb).cell (show 1 < 2 by omega)
  have hzs := hb.size
  simp only [World.size_alloc] at hzs
  have hz3 : w.heap.size < w1.heap.size := by omega
  have hz4 : w.heap.size + 1 < w1.heap.size := by omega
  have HBB := Lib.hid hb
  clear hb HB hzs HC
  go_wp2_with (at_make; go_must (refine wpList_make_full _ rfl _ _ _ rfl w1.heap.size 3 i0 _ 1 Try.underlying27 hi0 hz0 hz1 _ _ _ _ n rfl rfl rfl rfl (by rw [hz2]; omega) (by unfold maxLen; omega) (Nat.le_refl _) ?_; intro w2 hown2 hgrow2))
  clear e1 e2 b0 b1
  have hB2 := below_grown (v := .slice none 0 0) hgrow2 (B := w1.heap.size) (by intro k hk; cases hk) (Nat.le_refl _)
  have hF2 := made_nums hown2
  have hz5 : w1.heap.size < w2.heap.size := hF2.lt
  have HN0 : Hid (NumRel w (w2.alloc (.cells #[.int .i64 0, .slice none 0 0] 24)) w1.heap.size w2.heap.size n (.slice (some ⟨bq, oq, none⟩) xss.length c) (rx xss q) 0) :=
    ⟨DesRel.late (belowTrans HBB.out hB2) 0, (hF2.alloc _).congr fun j _ => rfl⟩
  clear hB2 hF2 hown2 hgrow2 HBB hi0 hz0 hz1 hz2
  go_loopw [37] (fun s wr => ∃ i : Nat, i ≤ n ∧ s = .int .i64 i ∧ NumRel w wr w1.heap.size w2.heap.size n (.slice (some ⟨bq, oq, none⟩) xss.length c) (rx xss q) i) (fun s _ => n - (intOf s).toNat)
  case atStart => exact ⟨0, by omega, rfl, HN0.out⟩
  case round =>
    clear HN0
    obtain ⟨i, hi, rfl, hN⟩ := hrel
    rename World => W2
    have HN := Lib.hid hN
    have b0 := hN.des.box.cell (show 0 < 2 by omega); have b1 := hN.des.box.cell (show 1 < 2 by omega)
    have o0 := hN.des.out.cell (show 0 < 2 by omega); have o00 := hN.des.out.free (show 0 < 2 by omega)
    have hcn := cntL_le (offB (rx xss q)) i
    have hlq : (leftOf n (rx xss q)).length = cntL (offB (rx xss q)) n := rfl
    have HLq := Lib.hid hlq
    clear hN hlq
    by_cases hin : i < n
    · have n0 := HN.out.num.cell hin; have n1 := HN.out.num.free hin
      have hcell2 := hcellq
      rw [← (bcell HN.out.des.bel).1 _ _ hbq] at hcell2
      have hne1 : ¬ bq = w1.heap.size := by omega
      have HL := Lib.hid (contains_any i _ _ (W2.setCell ⟨w1.heap.size, i, none⟩ (.int .i64 (-1))) (HRowQ.out.below ((HN.out.des.bel).setCell (by show _ ≤ w1.heap.size; omega) _)))
      cases em : mem (rx xss q) i
      · have HN2 := Lib.hid (HN.out.no hz4 hz5 hin em)
        rw [em] at HL
        clear em
        generalize cntL (offB (rx xss q)) i = C at *
        go_wp2_with (refine (HL.out).mono ?_; rintro e w' ⟨rfl, rfl⟩)
        go_roundw
        case rel => exact ⟨i + 1, by omega, by go_num, HN2.out⟩
        case measure => simp [intOf]; omega
      · have HN2 := Lib.hid (HN.out.yes hz4 hz5 hin em)
        rw [em] at HL
        clear em
        go_wp2_with (refine (HL.out).mono ?_; rintro e w' ⟨rfl, rfl⟩)
        go_roundw
        case rel => exact ⟨i + 1, by omega, by go_num, HN2.out⟩
        case measure => simp [intOf]; omega
    · obtain rfl : i = n := by omega
      have HP := Lib.hid HN.out.des
      have HNum := Lib.hid HN.out.num
      have r0 := HP.out.res.cell (show 0 < 2 by omega); have r1 := HP.out.res.cell (show 1 < 2 by omega)
      have f0 := HP.out.res.free (show 0 < 2 by omega); have f1 := HP.out.res.free (show 1 < 2 by omega)
      clear HN
      generalize cntL (offB (rx xss q)) i = P at *
      by_cases hP0 : P = 0
      · subst hP0
        have HD : Hid (ResPost i q xss w (.returned (.tuple #[.agg ((List.range 2).map (fun j => if j = 1 then Value.slice none 0 0 else if j = 0 then Value.int .i64 0 else .slice none 0 0)).toArray, .int .i64 2])) ((W2.setCell ⟨w.heap.size + 1, 0, none⟩ (.int .i64 0)).setCell ⟨w.heap.size + 1, 1, none⟩ (.slice none 0 0))) :=
          ResPost.no HLq.out (HP.out.nil0 2)
        have HA := Lib.hid ((HP.out.res.set (show 0 < 2 by omega) (.int .i64 0)).set (show 1 < 2 by omega) (.slice none 0 0))
        go_wp2_with fail
        exact bodyPost_ret (results_pairT (p := 4) (u := 5) rfl HA.out Try.underlying24 rfl (by kernel_rfl) rfl) rfl HD.out
      · have eq0 : ((P : Int) == 0) = false := by simp; exact hP0
        have hPos : 0 < P := by omega
        clear hP0
        go_wp2_with fail
        clear b0 b1 o0 o00 r0 r1 f0 f1 eq0
        go_loopw [68] (fun s wr => ∃ (k : Nat) (u : Value), k ≤ xss.length ∧ s = .int .i64 k ∧ Nums wr w1.heap.size i (numTo (rx xss q) i) ∧ DesRel w wr w2.heap.size i (.slice (some ⟨bq, oq, none⟩) xss.length c) P u (filtTo (notK q) (fun x => resG (rx xss q) (rx xss x) (rx xss x).length) k)) (fun s _ => xss.length - (intOf s).toNat)
        case atStart => exact ⟨0, _, by omega, rfl, HNum.out, HP.out⟩
        case round =>
          clear HNum HP
          obtain ⟨k, u, hk, rfl, hNum, hR⟩ := hrel
          rename World => W0
          obtain ⟨ua, uc, rfl⟩ := hR.own.shape
          have hkl := filtTo_len (notK q) (fun x => resG (rx xss q) (rx xss x) (rx xss x).length) k
          have HR := Lib.hid hR
          have HNum := Lib.hid hNum
          have b0 := hR.box.cell (show 0 < 2 by omega); have b1 := hR.box.cell (show 1 < 2 by omega)
          have o0 := hR.out.cell (show 0 < 2 by omega); have o1 := hR.out.cell (show 1 < 2 by omega); have o2 := hR.out.free (show 1 < 2 by omega)
          have r0 := hR.res.cell (show 0 < 2 by omega); have r1 := hR.res.cell (show 1 < 2 by omega)
          have f0 := hR.res.free (show 0 < 2 by omega); have f1 := hR.res.free (show 1 < 2 by omega)
          clear hR hNum
          by_cases hlt : k < xss.length
          · obtain ⟨hrow, b, o, er, hb, hc⟩ := HX.out k hlt
            injection er with er
            injection er with er1 er2 _
            subst er1; subst er2
            have hcell := hc k hlt
            rw [← (bcell HR.out.bel).1 _ _ hb] at hcell
            clear hc
            have hbl := HDes.out.all k hlt
            have hrlen := hbl.len (n := i)
            have HRng := Lib.hid hbl.rng
            obtain ⟨ra, rc, hV, q1, q2, _, hqq⟩ := id hrow
            rw [hV] at hcell
            have HQ := Lib.hid hqq
            clear hV hrow hqq hbl
            by_cases hkq : k = q
            · have ek : ((k : Int) == (q : Int)) = true := by simp; omega
              have Hp0 : Hid (notK q k = false) := by show _ = _; unfold notK; simp; exact hkq
              clear hkq
              go_wp2_with fail
              go_roundw
              case rel => exact ⟨k + 1, _, by omega, by go_num, HNum.out, by rw [filtTo_no Hp0.out]; exact HR.out⟩
              case measure => simp [intOf]; omega
            · have ek : ((k : Int) == (q : Int)) = false := by simp; omega
              have Hp0 : Hid (notK q k = true) := by show _ = _; unfold notK; simp; exact hkq
              clear hkq
              go_wp2_with fail
              clear b0 b1 o0 o1 o2 r0 r1 f0 f1 ek hcell
              go_loopw [78, 12] (fun s l wr2 => ∃ (x : Nat) (z : Value), x ≤ (rx xss k).length ∧ s = .int .i64 x ∧ l = z ∧ Own wr2 W0.heap.size 3 z (resG (rx xss q) (rx xss k) x) ∧ Below W0.heap.size W0 wr2) (fun s _ _ => (rx xss k).length - (intOf s).toNat)
              case atStart => exact ⟨0, _, by omega, rfl, rfl, own_nil _ _ _, Below.refl _ _⟩
              case round =>
                obtain ⟨x, z, hx, rfl, hz, hO, hB⟩ := hrel
                subst hz
                have HO := Lib.hid hO; have HB2 := Lib.hid hB
                have HR2 := Lib.hid (HR.out.next hB)
                have HNum2 := Lib.hid (Arr.below HNum.out hB)
                have o0 := HR2.out.out.cell (show 0 < 2 by omega); have o1 := HR2.out.out.cell (show 1 < 2 by omega); have o2 := HR2.out.out.free (show 1 < 2 by omega)
                have hsz := hB.size
                have hsz2 := HR.out.size
                have hpl := resG_len (rx xss q) (rx xss k) x
                clear hO hB
                by_cases hxn : x < (rx xss k).length
                · clear o0 o1 o2
                  obtain ⟨b2, o2, rfl, hb2, hc2⟩ := HQ.out x hxn
                  have c1 := hc2 x hxn
                  rw [← (bcell HR2.out.bel).1 _ _ hb2] at c1
                  have hy := HRng.out x hxn
                  clear hc2
                  obtain ⟨y, hy2⟩ : ∃ y : Nat, ix (rx xss k) x = y := Int.eq_ofNat_of_zero_le hy.1
                  have hyn : y < i := by omega
                  have hnum := HNum2.out.cell hyn
                  have hnv : numTo (rx xss q) i y = numV (rx xss q) y := by unfold numTo; rw [if_pos hyn]
                  rw [hnv] at hnum
                  clear hnv
                  cases em : mem (rx xss q) (y : Int)
                  · have HS := Lib.hid (resG_out (b := rx xss q) (row := rx xss k) (j := x) (by rw [hy2]; exact em))
                    have hv : numV (rx xss q) y = (cntL (offB (rx xss q)) y : Nat) := by unfold numV; rw [em]; rfl
                    rw [hv] at hnum
                    rw [hy2, Int.toNat_natCast] at HS
                    have hcy := cntL_le (offB (rx xss q)) y
                    rw [hy2] at c1
                    clear hv em hy hy2
                    generalize cntL (offB (rx xss q)) y = C at *
                    go_wp2_with (at_builtin; refine app_own rfl _ _ rfl rfl (HO.out.alloc _) _ _ rfl (by rw [World.cell?_alloc_new]; rfl) (by omega) (by rw [World.size_alloc]; omega) ?_; intro v' w1 hown1 hgrow)
                    have HO1 := Lib.hid hown1
                    have HB1 := Lib.hid ((HB2.out.alloc hsz _).grown hgrow (by rw [World.size_alloc]; omega) (fun k hk => (HO.out.block k hk).1))
                    clear hown1 hgrow
                    go_roundw
                    case rel => exact ⟨x + 1, _, by omega, by go_num, rfl, by rw [HS.out]; exact HO1.out, HB1.out⟩
                    case measure => simp [intOf]; omega
                  · have HS := Lib.hid (resG_in (b := rx xss q) (row := rx xss k) (j := x) (by rw [hy2]; exact em))
                    have hv : numV (rx xss q) y = -1 := by unfold numV; rw [em]; rfl
                    rw [hv] at hnum
                    rw [hy2] at c1
                    clear hv em hy hy2
                    go_wp2_with fail
                    go_roundw
                    case rel => exact ⟨x + 1, _, by omega, by go_num, rfl, by rw [HS.out]; exact HO.out, HB2.out⟩
                    case measure => simp [intOf]; omega
                · have hxN : x = (rx xss k).length := by omega
                  have HXN := Lib.hid hxN
                  clear hxN
                  obtain ⟨za, zl, zc, rfl⟩ := HO.out.shape
                  have hz6 : w1.heap.size < W0.heap.size := HNum.out.lt
                  go_wp2_with (at_builtin; refine app_list rfl _ _ rfl rfl (HR2.out.own.below (below_box _ _)) _ ((HO.out.base hsz2).alloc _) rfl (by rw [World.cell?_alloc_new]; rfl) (by omega) (by rw [World.size_alloc]; omega) ?_; intro v' w3 hown1 hgrow; obtain ⟨va, vc, rfl⟩ := hown1.shape; have HR3 := Lib.hid ((HR2.out.next (below_box _ _)).push hown1 hgrow); have HNum3 := Lib.hid (nums_push (HNum2.out.alloc _) (HR2.out.next (below_box _ _)) hz5 hgrow (.slice va (filtTo (notK q) (fun x => resG (rx xss q) (rx xss x) (rx xss x).length) k ++ [resG (rx xss q) (rx xss k) x]).length vc)); obtain ⟨y1, y2⟩ := (HR2.out.next (below_box _ _)).spot hgrow; clear hown1 hgrow)
                  rw [List.length_append] at HR3 HNum3
                  go_roundw
                  case rel => exact ⟨k + 1, _, by omega, by go_num, HNum3.out, by rw [filtTo_yes Hp0.out, ← HXN.out]; exact HR3.out⟩
                  case measure => simp [intOf]; omega
          · obtain rfl : k = xss.length := by omega
            have HY : Hid (∀ e w', DesPostT P (filtTo (notK q) (fun x => resG (rx xss q) (rx xss x) (rx xss x).length) xss.length) 0 w e w' → ResPost i q xss w e w') := by
              show ∀ e w', _
              intro e w' hp
              refine ResPost.yes (by rw [HLq.out]; exact hPos) ?_
              rw [HLq.out, ← HLaw.out]; exact hp
            go_wp2_with fail
            exact bodyPost_ret (results_pairT (p := 4) (u := 5) rfl HR.out.last Try.underlying24 rfl (by kernel_rfl) rfl) rfl
              (HY.out _ _ (HR.out.doneT (by omega) (fun i hi => by
                obtain ⟨j, hj, _, e⟩ := filtTo_mem (rx_mem hi)
                have := (HDes.out.all j hj).len
                rw [e]; exact Nat.le_trans (resG_len _ _ _) (by omega)) 0))
end Go.Proofs.Ytkmcmahpfhlkhaa
