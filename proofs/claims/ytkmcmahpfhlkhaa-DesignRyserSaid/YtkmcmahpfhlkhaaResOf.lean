/-
  Contract: the reference's ResidualOf a design. No condition.
-/
import Derived.Test.YtkmcmahpfhlkhaaCompOf
namespace Go.Proofs.Ytkmcmahpfhlkhaa
open Go.RowKit

def leftOf (n : Nat) (b : List Int) : List Int := pickL (offB b) n
def resB (left b : List Int) (x : Nat) : Bool := mem b (ix left x)
def notK (q i : Nat) : Bool := !(i == q)
def resL (n q : Nat) (xss : List (List Int)) : List (List Int) := filtTo (notK q) (fun i => pickL (resB (leftOf n (rx xss q)) (rx xss i)) (leftOf n (rx xss q)).length) xss.length

set_option maxRecDepth 100000 in
set_option maxHeartbeats 1000000 in
theorem resOf_range (n : Nat) (q : Int) (v : Value) (xss : List (List Int)) (w : World) (h : RowsAt w v xss) (hq : q < 0 ∨ (xss.length : Int) ≤ q) :
    Calls Try.prog 28 #[.agg #[.int .i64 n, v], .int .i64 q] w (DesPostT 0 [] 1 w) := by
  obtain ⟨a, c, V, rfl, h1, h2, _, h3⟩ := h
  clear h3
  have HA := Lib.hid (arr_new w n (.slice a xss.length c) 24)
  have HD := Lib.hid (desT_new w n (.slice a xss.length c) 24 1)
  by_cases h0 : q < 0
  · have e1 : decide (q < 0) = true := by simpa using h0
    clear hq
    go_enter Try.func28, Try.ntmps28
    go_wp2_with fail
    exact bodyPost_ret (results_pairT (p := 4) (u := 5) rfl HA.out Try.underlying24 rfl (by kernel_rfl) rfl) rfl HD.out
  · have e1 : decide (q < 0) = false := by simpa using h0
    have e2 : decide ((xss.length : Int) ≤ q) = true := by simp; omega
    clear hq
    go_enter Try.func28, Try.ntmps28
    go_wp2_with fail
    exact bodyPost_ret (results_pairT (p := 4) (u := 5) rfl HA.out Try.underlying24 rfl (by kernel_rfl) rfl) rfl HD.out

/-- What ResidualOf answers at a block that there is. -/
def ResPost (n q : Nat) (xss : List (List Int)) (w : World) (e : Ending) (w' : World) : Prop :=
  if (leftOf n (rx xss q)).length = 0 then DesPostT 0 [] 2 w e w' else DesPostT (leftOf n (rx xss q)).length (resL n q xss) 0 w e w'
theorem ResPost.no {n q : Nat} {xss : List (List Int)} {w w' : World} {e : Ending} (h0 : (leftOf n (rx xss q)).length = 0) (h : DesPostT 0 [] 2 w e w') : ResPost n q xss w e w' := by
  unfold ResPost; rw [if_pos h0]; exact h
theorem ResPost.yes {n q : Nat} {xss : List (List Int)} {w w' : World} {e : Ending} (h0 : 0 < (leftOf n (rx xss q)).length) (h : DesPostT (leftOf n (rx xss q)).length (resL n q xss) 0 w e w') : ResPost n q xss w e w' := by
  unfold ResPost; rw [if_neg (by omega)]; exact h
/-- The empty result behind what was read. -/
theorem desT_late {w w1 : World} {n : Int} {dv : Value} {t : TypeId} (hb : Below ((w.alloc (.cells #[.int .i64 n, dv] t)).alloc (.cells #[.int .i64 0, .slice none 0 0] t)).heap.size ((w.alloc (.cells #[.int .i64 n, dv] t)).alloc (.cells #[.int .i64 0, .slice none 0 0] t)) w1) (e0 : Int) :
    DesPostT 0 [] e0 w (.returned (.tuple #[.agg ((List.range 2).map (fun j => if j = 1 then Value.slice none 0 0 else if j = 0 then Value.int .i64 0 else .slice none 0 0)).toArray, .int .i64 e0])) ((w1.setCell ⟨w.heap.size + 1, 0, none⟩ (.int .i64 0)).setCell ⟨w.heap.size + 1, 1, none⟩ (.slice none 0 0)) :=
  ⟨.slice none 0 0, rfl, rows_nil _, (((belowTrans (below_box w _) (below_box _ _)).trans (hb.mono (by simp; omega))).setCell (by show _ ≤ w.heap.size + 1; omega) _).setCell (by show _ ≤ w.heap.size + 1; omega) _, fun _ _ _ => rows_nil _⟩

set_option maxRecDepth 100000 in
set_option maxHeartbeats 1000000 in
theorem resOf_any (n q : Nat) (v : Value) (xss : List (List Int)) (w : World) (h : RowsAt w v xss) (hn : n ≤ 40) (hq : q < xss.length) (hl : xss.length ≤ 200) :
    Calls Try.prog 28 #[.agg #[.int .i64 n, v], .int .i64 q] w (ResPost n q xss w) := by
  obtain ⟨a, c, V, rfl, h1, h2, _, h3⟩ := h
  have HX := Lib.hid h3; clear h3
  obtain ⟨W1, hW1⟩ : ∃ W1, W1 = (w.alloc (.cells #[.int .i64 (n : Int), .slice a xss.length c] 24)).alloc (.cells #[.int .i64 0, .slice none 0 0] 24) := ⟨_, rfl⟩
  have HW1 := Lib.hid hW1
  have HBW : Hid (Below w.heap.size w W1) := by show Below _ _ _; rw [hW1]; exact belowTrans (below_box _ _) (below_box _ _)
  have HZ1 : Hid (W1.heap.size = w.heap.size + 2) := by show _ = _; rw [hW1]; simp
  have HBox : Hid (Arr W1 w.heap.size 2 (fun j => if j = 0 then Value.int .i64 n else .slice a xss.length c)) := by show Arr _ _ _ _; rw [hW1]; exact (pair_new _ _ _ _ _ rfl).alloc _
  have HRes : Hid (Arr W1 (w.heap.size + 1) 2 (fun j => if j = 0 then Value.int .i64 0 else .slice none 0 0)) := by show Arr _ _ _ _; rw [hW1]; exact pair_new _ _ _ _ _ (by simp)
  have e1 : decide ((q : Int) < 0) = false := by simp
  have e2 : decide (xss.length ≤ q) = false := by simp; omega
  go_enter Try.func28, Try.ntmps28
  go_wp2_with fail
  rw [← hW1]
  clear e1 e2 hW1
  obtain ⟨hrowq, bq, oq, rfl, hbq, hcq⟩ := HX.out q hq
  have hcellq := hcq q hq
  clear hcq
  obtain ⟨qa, qc, hVq, _⟩ := id hrowq
  rw [hVq] at hcellq hrowq
  have HRowQ := Lib.hid hrowq
  clear hVq hrowq
  obtain ⟨lf, hlf⟩ : ∃ lf, lf = leftOf n (rx xss q) := ⟨_, rfl⟩
  have HLf := Lib.hid hlf; clear hlf
  go_loopw [7, 6] (fun s l wr => ∃ (x : Nat) (z : Value), x ≤ n ∧ s = .int .i64 x ∧ l = z ∧ Own wr (w.heap.size + 2) 3 z (pickL (offB (rx xss q)) x) ∧ Below W1.heap.size W1 wr) (fun s _ _ => n - (intOf s).toNat)
  case atStart => exact ⟨0, _, by omega, rfl, rfl, own_nil _ _ _, Below.refl _ _⟩
  case round =>
    obtain ⟨x, z, hx, rfl, hz, hO, hB⟩ := hrel
    subst hz
    rename World => W2
    have HO := Lib.hid hO; have HB := Lib.hid hB
    have HBw := Lib.hid (belowTrans HBW.out hB)
    have b0 := (HBox.out.below hB).cell (show 0 < 2 by omega); have b1 := (HBox.out.below hB).cell (show 1 < 2 by omega)
    have r0 := (HRes.out.below hB).cell (show 0 < 2 by omega); have r1 := (HRes.out.below hB).cell (show 1 < 2 by omega)
    have f0 := (HRes.out.below hB).free (show 0 < 2 by omega); have f1 := (HRes.out.below hB).free (show 1 < 2 by omega)
    have hsz := hB.size
    have hz1 := HZ1.out
    have hpl := pickL_len (offB (rx xss q)) x
    have hcell2 := hcellq
    rw [← (bcell HBw.out).1 _ _ hbq] at hcell2
    clear hO hB
    by_cases hxn : x < n
    · have HL := Lib.hid (lies_any x _ _ W2 (HRowQ.out.below HBw.out))
      clear r0 r1 f0 f1
      cases em : mem (rx xss q) x
      · have Hp : Hid (offB (rx xss q) x = true) := by show _ = _; unfold offB; rw [em]; rfl
        rw [em] at HL
        clear em
        go_wp2_with (first
          | (refine (HL.out).mono ?_; rintro e w' ⟨rfl, rfl⟩)
          | (at_builtin; refine app_own rfl _ _ rfl rfl (HO.out.alloc _) _ _ rfl (by rw [World.cell?_alloc_new]; rfl) (by omega) (by rw [World.size_alloc]; omega) ?_; intro v' w1 hown1 hgrow))
        have HO1 := Lib.hid hown1
        have HB1 := Lib.hid ((HB.out.alloc hsz _).grown hgrow (by rw [World.size_alloc]; omega) (fun k hk => by have := (HO.out.block k hk).1; omega))
        clear hown1 hgrow
        go_roundw
        case rel => exact ⟨x + 1, _, by omega, by go_num, rfl, by rw [pickL_yes Hp.out]; exact HO1.out, HB1.out⟩
        case measure => simp [intOf]; omega
      · have Hp : Hid (offB (rx xss q) x = false) := by show _ = _; unfold offB; rw [em]; rfl
        rw [em] at HL
        clear em
        go_wp2_with (refine (HL.out).mono ?_; rintro e w' ⟨rfl, rfl⟩)
        go_roundw
        case rel => exact ⟨x + 1, _, by omega, by go_num, rfl, by rw [pickL_no Hp.out]; exact HO.out, HB.out⟩
        case measure => simp [intOf]; omega
    · obtain rfl : x = n := by omega
      have HLfe : Hid (pickL (offB (rx xss q)) x = lf) := by show _ = _; rw [HLf.out]; rfl
      rw [HLfe.out] at HO hpl
      have HI := Lib.hid (HO.out.intsAt (by omega))
      obtain ⟨la, lc, hz, _, _, _, h5⟩ := id HI.out
      subst hz
      have HL5 := Lib.hid h5; clear h5
      by_cases hl0 : lf.length = 0
      · have eq0 : ((lf.length : Int) == 0) = true := by rw [hl0]; rfl
        have HD : Hid (ResPost x q xss w (.returned (.tuple #[.agg ((List.range 2).map (fun j => if j = 1 then Value.slice none 0 0 else if j = 0 then Value.int .i64 0 else .slice none 0 0)).toArray, .int .i64 2])) ((W2.setCell ⟨w.heap.size + 1, 0, none⟩ (.int .i64 0)).setCell ⟨w.heap.size + 1, 1, none⟩ (.slice none 0 0))) := by
          have hB := HB.out
          rw [HW1.out] at hB
          exact ResPost.no (by rw [← HLf.out]; exact hl0) (desT_late hB 2)
        have HA := Lib.hid (((HRes.out.below HB.out).set (show 0 < 2 by omega) (.int .i64 0)).set (show 1 < 2 by omega) (.slice none 0 0))
        go_wp2_with fail
        exact bodyPost_ret (results_pairT (p := 4) (u := 5) rfl HA.out Try.underlying24 rfl (by kernel_rfl) rfl) rfl HD.out
      · have eq0 : ((lf.length : Int) == 0) = false := by simp; intro e; rw [e] at hl0; exact hl0 rfl
        have HR0 : Hid (DesRel w (W2.alloc (.cells #[.int .i64 (lf.length : Int), .slice none 0 0] 24)) W2.heap.size x (.slice (some ⟨bq, oq, none⟩) xss.length c) lf.length (.slice none 0 0) []) := by
          have hB := HB.out
          rw [HW1.out] at hB
          exact DesRel.late hB lf.length
        have HI0 := Lib.hid (below_box W2 (.cells #[.int .i64 (lf.length : Int), .slice none 0 0] 24))
        go_wp2_with fail
        clear b0 b1 r0 r1 f0 f1 hcell2 eq0
        go_loopw [10] (fun s wr => ∃ (k : Nat) (u : Value), k ≤ xss.length ∧ s = .int .i64 k ∧ Below W2.heap.size W2 wr ∧ DesRel w wr W2.heap.size x (.slice (some ⟨bq, oq, none⟩) xss.length c) lf.length u (filtTo (notK q) (fun i => pickL (resB lf (rx xss i)) lf.length) k)) (fun s _ => xss.length - (intOf s).toNat)
        case atStart => exact ⟨0, _, by omega, rfl, HI0.out, HR0.out⟩
        case round =>
          clear HR0 HI0
          obtain ⟨k, u, hk, rfl, hI, hR⟩ := hrel
          rename World => W0
          obtain ⟨ua, uc, rfl⟩ := hR.own.shape
          have hkl := filtTo_len (notK q) (fun i => pickL (resB lf (rx xss i)) lf.length) k
          have HR := Lib.hid hR
          have HI1 := Lib.hid hI; clear hI
          have b0 := hR.box.cell (show 0 < 2 by omega); have b1 := hR.box.cell (show 1 < 2 by omega)
          have o0 := hR.out.cell (show 0 < 2 by omega); have o1 := hR.out.cell (show 1 < 2 by omega); have o2 := hR.out.free (show 1 < 2 by omega)
          have r0 := hR.res.cell (show 0 < 2 by omega); have r1 := hR.res.cell (show 1 < 2 by omega)
          have f0 := hR.res.free (show 0 < 2 by omega); have f1 := hR.res.free (show 1 < 2 by omega)
          clear hR
          by_cases hlt : k < xss.length
          · by_cases hkq : k = q
            · have ek : ((k : Int) == (q : Int)) = true := by simp; omega
              have Hp0 : Hid (notK q k = false) := by show _ = _; unfold notK; simp; exact hkq
              clear hkq
              go_wp2_with fail
              go_roundw
              case rel => exact ⟨k + 1, _, by omega, by go_num, HI1.out, by rw [filtTo_no Hp0.out]; exact HR.out⟩
              case measure => simp [intOf]; omega
            · have ek : ((k : Int) == (q : Int)) = false := by simp; omega
              have Hp0 : Hid (notK q k = true) := by show _ = _; unfold notK; simp; exact hkq
              obtain ⟨hrow, b, o, er, hb, hc⟩ := HX.out k hlt
              injection er with er
              injection er with er1 er2 _
              subst er1; subst er2
              have hcell := hc k hlt
              clear hc
              obtain ⟨ra, rc, hV, _⟩ := id hrow
              rw [hV] at hcell hrow
              have HRow := Lib.hid hrow
              clear hV hrow hkq
              go_wp2_with fail
              clear b0 b1 o0 o1 o2 r0 r1 f0 f1 ek
              go_loopw [12, 11] (fun s l wr2 => ∃ (x : Nat) (z : Value), x ≤ lf.length ∧ s = .int .i64 x ∧ l = z ∧ Own wr2 W0.heap.size 3 z (pickL (resB lf (rx xss k)) x) ∧ Below W0.heap.size W0 wr2) (fun s _ _ => lf.length - (intOf s).toNat)
              case atStart => exact ⟨0, _, by omega, rfl, rfl, own_nil _ _ _, Below.refl _ _⟩
              case round =>
                obtain ⟨y, z, hy, rfl, hz, hO, hB⟩ := hrel
                subst hz
                have HO2 := Lib.hid hO; have HB2 := Lib.hid hB
                have HR2 := Lib.hid (HR.out.next hB)
                have HBo := Lib.hid (belowTrans HI1.out hB)
                have HI2 := Lib.hid (HI.out.below HBo.out)
                have b0 := HR2.out.box.cell (show 0 < 2 by omega); have b1 := HR2.out.box.cell (show 1 < 2 by omega)
                have o0 := HR2.out.out.cell (show 0 < 2 by omega); have o1 := HR2.out.out.cell (show 1 < 2 by omega); have o2 := HR2.out.out.free (show 1 < 2 by omega)
                have hszi := hB.size
                have hsz2 := HR.out.size
                have hpl2 := pickL_len (resB lf (rx xss k)) y
                have hcell2 := hcell
                rw [← (bcell HR2.out.bel).1 _ _ hb] at hcell2
                clear hO hB
                by_cases hyn : y < lf.length
                · have HC : Hid (∀ m, Calls Try.prog 45 #[.slice ra (rx xss k).length rc, .int .i64 (ix lf y)] (wr.drewN m) fun e w' => e = .returned (.bool (mem (rx xss k) (ix lf y))) ∧ ∃ nd, w' = (wr.drewN m).drewN nd) :=
                    fun m => (lies_any (ix lf y) _ _ (wr.drewN m) (HRow.out.below (below_drewN HR2.out.bel m))).mono fun e w' he => ⟨he.1, 0, he.2.symm⟩
                  obtain ⟨_, _, ez, _, _, _, h5⟩ := HI2.out
                  injection ez with ez1 ez2 ez3
                  obtain ⟨lb, lo, el, hlb, hlc⟩ := h5 y hyn
                  have el2 := ez1.trans el
                  subst el2
                  have hly := hlc y hyn
                  have i1 : ((y : Nat) : Int) < ((lf.length : Nat) : Int) := by omega
                  have i2 : ((k : Nat) : Int) < ((xss.length : Nat) : Int) := by omega
                  clear hlc h5 ez1 ez2 ez3 el o0 o1 o2
                  cases em : mem (rx xss k) (ix lf y)
                  · have Hp : Hid (resB lf (rx xss k) y = false) := by show _ = _; unfold resB; rw [em]
                    rw [em] at HC
                    clear em
                    go_wp2_with fail
                    go_quiet (exact Calls.quiet_of (HC.out _))
                    go_wp2_with fail
                    go_roundw
                    case rel => exact ⟨y + 1, _, by omega, by go_num, rfl, by rw [pickL_no Hp.out]; exact HO2.out.drewN _, below_drewN HB2.out _⟩
                    case measure => simp [intOf]; omega
                  · have Hp : Hid (resB lf (rx xss k) y = true) := by show _ = _; unfold resB; rw [em]
                    rw [em] at HC
                    clear em
                    go_wp2_with fail
                    go_quiet (exact Calls.quiet_of (HC.out _))
                    go_wp2_with (at_builtin; refine app_own rfl _ _ rfl rfl ((HO2.out.drewN _).alloc _) _ _ rfl (by rw [show wr.heap.size = (wr.drewN nq).heap.size from rfl, World.cell?_alloc_new]; rfl) (by omega) (by rw [World.size_alloc]; show _ ≤ wr.heap.size + 1; omega) ?_; intro v' w1 hown1 hgrow)
                    have HO1 := Lib.hid hown1
                    have HB1 := Lib.hid (((below_drewN HB2.out _).alloc hszi _).grown hgrow (by rw [World.size_alloc]; show _ ≤ wr.heap.size + 1; omega) (fun k hk => (HO2.out.block k hk).1))
                    clear hown1 hgrow
                    go_roundw
                    case rel => exact ⟨y + 1, _, by omega, by go_num, rfl, by rw [pickL_yes Hp.out]; exact HO1.out, HB1.out⟩
                    case measure => simp [intOf]; omega
                · obtain rfl : y = lf.length := by omega
                  obtain ⟨za, zl, zc, rfl⟩ := HO2.out.shape
                  go_wp2_with (at_builtin; refine app_list rfl _ _ rfl rfl (HR2.out.own.below (below_box _ _)) _ ((HO2.out.base hsz2).alloc _) rfl (by rw [World.cell?_alloc_new]; rfl) (by omega) (by rw [World.size_alloc]; omega) ?_; intro v' w1 hown1 hgrow; obtain ⟨va, vc, rfl⟩ := hown1.shape; have HR3 := Lib.hid ((HR2.out.next (below_box _ _)).push hown1 hgrow); have HI3 := Lib.hid (((HBo.out.alloc HBo.out.size _).grown hgrow (Nat.le_trans HBo.out.size (by rw [World.size_alloc]; omega)) (fun k hk => Nat.le_of_succ_le (HR2.out.own.block k hk).1)).setCell (p := ⟨W2.heap.size, 1, none⟩) (Nat.le_refl _) (.slice va (filtTo (notK q) (fun i => pickL (resB lf (rx xss i)) lf.length) k ++ [pickL (resB lf (rx xss k)) lf.length]).length vc)); obtain ⟨y1, y2⟩ := (HR2.out.next (below_box _ _)).spot hgrow; clear hown1 hgrow)
                  rw [List.length_append] at HR3 HI3
                  go_roundw
                  case rel => exact ⟨k + 1, _, by omega, by go_num, HI3.out, by rw [filtTo_yes Hp0.out]; exact HR3.out⟩
                  case measure => simp [intOf]; omega
          · obtain rfl : k = xss.length := by omega
            have HY : Hid (∀ e w', DesPostT lf.length (filtTo (notK q) (fun i => pickL (resB lf (rx xss i)) lf.length) xss.length) 0 w e w' → ResPost x q xss w e w') := by
              show ∀ e w', _
              intro e w' hp
              refine ResPost.yes (by rw [← HLf.out]; omega) ?_
              unfold resL; rw [← HLf.out]; exact hp
            go_wp2_with fail
            exact bodyPost_ret (results_pairT (p := 4) (u := 5) rfl HR.out.last Try.underlying24 rfl (by kernel_rfl) rfl) rfl
              (HY.out _ _ (HR.out.doneT (by omega) (fun i hi => by
                obtain ⟨j, _, _, e⟩ := filtTo_mem (rx_mem hi)
                rw [e]; exact Nat.le_trans (pickL_len _ _) (by omega)) 0))
end Go.Proofs.Ytkmcmahpfhlkhaa
