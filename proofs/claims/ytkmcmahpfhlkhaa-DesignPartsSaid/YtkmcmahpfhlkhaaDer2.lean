/-
  Contract: design.Derived at a point. No condition.
-/
import Derived.Test.YtkmcmahpfhlkhaaDer
namespace Go.Proofs.Ytkmcmahpfhlkhaa
open Go.RowKit

set_option maxRecDepth 100000 in
set_option maxHeartbeats 1000000 in
theorem der_any (m p : Nat) (v : Value) (xss : List (List Int)) (w : World) (h : RowsAt w v xss) (hD : IsDes ((m : Int) + 1) xss) (hm : 0 < m) (hp : p < m + 1) :
    Calls Try.prog 23 #[.agg #[.int .i64 ((m : Int) + 1), v], .int .i64 p] w (DesPostT m (derL m p xss) 0 w) := by
  have HC := Lib.hid (check_any ((m : Int) + 1) v xss _ (h.below (belowTrans (below_box w (.cells #[.int .i64 ((m : Int) + 1), v] 24)) (below_box _ (.cells #[.int .i64 0, .slice none 0 0] 24)))))
  rw [hD.fault] at HC
  have HDes := Lib.hid hD
  have hn := hD.hi
  have hl := hD.few
  rw [← der_law hD hp]
  clear hD
  have HB : Hid (Arr ((w.alloc (.cells #[.int .i64 ((m : Int) + 1), v] 24)).alloc (.cells #[.int .i64 0, .slice none 0 0] 24)) w.heap.size 2 (fun j => if j = 0 then Value.int .i64 ((m : Int) + 1) else v)) := (pair_new _ _ _ _ _ rfl).alloc _
  obtain ⟨a, c, V, rfl, h1, h2, _, h3⟩ := h
  have HX := Lib.hid h3; clear h3
  have e1 : decide ((p : Int) < 0) = false := by simp
  have e2 : decide ((m : Int) + 1 ≤ (p : Int)) = false := by simp; omega
  have e3 : (((m : Int) + 1) == 1) = false := by simp; omega
  have i1 : IntKind.i64.wrap ((m : Int) + 1 - 1) = (m : Int) := by rw [show (m : Int) + 1 - 1 = (m : Int) by omega]; exact IntWalk.i64_in _ (by omega)
  go_enter Try.func23, Try.ntmps23
  go_wp2_with fail
  refine (HC.out).mono ?_
  rintro e w1 ⟨rfl, hb⟩
  have HR0 := Lib.hid (DesRel.late hb m)
  have b0 := (HB.out.below hb).cell (show 0 < 2 by omega); have b1 := (HB.out.below hb).cell (show 1 < 2 by omega)
  have hzs := hb.size
  simp only [World.size_alloc] at hzs
  have hz0 : w.heap.size < w1.heap.size := by omega
  have hz1 : w.heap.size + 1 < w1.heap.size := by omega
  clear hb HB hzs
  go_wp2_with fail
  clear e1 e2 e3 b0 b1
  go_loopw [41] (fun s wr => ∃ (k : Nat) (u : Value), k ≤ xss.length ∧ s = .int .i64 k ∧ DesRel w wr w1.heap.size ((m : Int) + 1) (.slice a xss.length c) m u (filtTo (hasP xss p) (fun i => derG p (rx xss i) (rx xss i).length) k)) (fun s _ => xss.length - (intOf s).toNat)
  case atStart => exact ⟨0, _, by omega, rfl, HR0.out⟩
  case round =>
    clear HR0
    obtain ⟨k, u, hk, rfl, hR⟩ := hrel
    rename World => W0
    obtain ⟨ua, uc, rfl⟩ := hR.own.shape
    have hkl := filtTo_len (hasP xss p) (fun i => derG p (rx xss i) (rx xss i).length) k
    have HR := Lib.hid hR
    have b0 := hR.box.cell (show 0 < 2 by omega); have b1 := hR.box.cell (show 1 < 2 by omega)
    have o0 := hR.out.cell (show 0 < 2 by omega); have o1 := hR.out.cell (show 1 < 2 by omega); have o2 := hR.out.free (show 1 < 2 by omega)
    have r0 := hR.res.cell (show 0 < 2 by omega); have r1 := hR.res.cell (show 1 < 2 by omega)
    have f0 := hR.res.free (show 0 < 2 by omega); have f1 := hR.res.free (show 1 < 2 by omega)
    clear hR
    by_cases hlt : k < xss.length
    · obtain ⟨hrow, b, o, rfl, hb, hc⟩ := HX.out k hlt
      have hcell := hc k hlt
      rw [← (bcell HR.out.bel).1 _ _ hb] at hcell
      clear hc
      have hbl := HDes.out.all k hlt
      have hrlen := hbl.len (n := m + 1)
      have HRng := Lib.hid hbl.rng
      obtain ⟨ra, rc, hV, q1, q2, _, hq⟩ := id hrow
      rw [hV] at hcell hrow
      have HRow := Lib.hid hrow
      have HQ := Lib.hid hq
      clear hV hrow hq hbl
      have HL0 := Lib.hid (contains_any p _ _ W0 (HRow.out.below HR.out.bel))
      cases ep : mem (rx xss k) p
      · have Hp0 : Hid (hasP xss p k = false) := by show _ = _; unfold hasP; rw [ep]
        rw [ep] at HL0
        clear ep
        go_wp2_with (refine (HL0.out).mono ?_; rintro e w' ⟨rfl, rfl⟩)
        go_roundw
        case rel => exact ⟨k + 1, _, by omega, by go_num, by rw [filtTo_no Hp0.out]; exact HR.out⟩
        case measure => simp [intOf]; omega
      · have Hp0 : Hid (hasP xss p k = true) := by show _ = _; unfold hasP; rw [ep]
        rw [ep] at HL0
        clear ep
        go_wp2_with (refine (HL0.out).mono ?_; rintro e w' ⟨rfl, rfl⟩)
        clear b0 b1 o0 o1 o2 r0 r1 f0 f1 HL0 hcell
        go_loopw [51, 10] (fun s l wr2 => ∃ (x : Nat) (z : Value), x ≤ (rx xss k).length ∧ s = .int .i64 x ∧ l = z ∧ Own wr2 W0.heap.size 3 z (derG p (rx xss k) x) ∧ Below W0.heap.size W0 wr2) (fun s _ _ => (rx xss k).length - (intOf s).toNat)
        case atStart => exact ⟨0, _, by omega, rfl, rfl, own_nil _ _ _, Below.refl _ _⟩
        case round =>
          obtain ⟨x, z, hx, rfl, hz, hO, hB⟩ := hrel
          subst hz
          have HO := Lib.hid hO; have HB := Lib.hid hB
          have HR2 := Lib.hid (HR.out.next hB)
          have o0 := HR2.out.out.cell (show 0 < 2 by omega); have o1 := HR2.out.out.cell (show 1 < 2 by omega); have o2 := HR2.out.out.free (show 1 < 2 by omega)
          have hsz := hB.size
          have hsz2 := HR.out.size
          have hpl := derG_len p (rx xss k) x
          have hrl : (rx xss k).length ≤ 40 := by omega
          clear hO hB
          by_cases hxn : x < (rx xss k).length
          · clear o0 o1 o2
            obtain ⟨b2, o2, rfl, hb2, hc2⟩ := HQ.out x hxn
            have c1 := hc2 x hxn
            rw [← (bcell HR2.out.bel).1 _ _ hb2] at c1
            have hy := HRng.out x hxn
            clear hc2
            by_cases hlo : ix (rx xss k) x < p
            · have HS := Lib.hid (derG_lo hlo)
              have ed : decide (ix (rx xss k) x < (p : Int)) = true := by simpa using hlo
              clear hlo
              go_wp2_with (at_builtin; refine app_own rfl _ _ rfl rfl (HO.out.alloc _) _ _ rfl (by rw [World.cell?_alloc_new]; rfl) (by omega) (by rw [World.size_alloc]; omega) ?_; intro v' w1 hown1 hgrow)
              have HO1 := Lib.hid hown1
              have HB1 := Lib.hid ((HB.out.alloc hsz _).grown hgrow (by rw [World.size_alloc]; omega) (fun k hk => (HO.out.block k hk).1))
              clear hown1 hgrow
              go_roundw
              case rel => exact ⟨x + 1, _, by omega, by go_num, rfl, by rw [HS.out]; exact HO1.out, HB1.out⟩
              case measure => simp [intOf]; omega
            · have ed : decide (ix (rx xss k) x < (p : Int)) = false := by simpa using hlo
              by_cases hhi : (p : Int) < ix (rx xss k) x
              · have HS := Lib.hid (derG_hi hhi)
                have ed2 : decide ((p : Int) < ix (rx xss k) x) = true := by simpa using hhi
                have i2 : IntKind.i64.wrap (ix (rx xss k) x - 1) = ix (rx xss k) x - 1 := IntWalk.i64_in _ (by omega)
                clear hlo hhi
                go_wp2_with (at_builtin; refine app_own rfl _ _ rfl rfl (HO.out.alloc _) _ _ rfl (by rw [World.cell?_alloc_new]; rfl) (by omega) (by rw [World.size_alloc]; omega) ?_; intro v' w1 hown1 hgrow)
                have HO1 := Lib.hid hown1
                have HB1 := Lib.hid ((HB.out.alloc hsz _).grown hgrow (by rw [World.size_alloc]; omega) (fun k hk => (HO.out.block k hk).1))
                clear hown1 hgrow
                go_roundw
                case rel => exact ⟨x + 1, _, by omega, by go_num, rfl, by rw [HS.out]; exact HO1.out, HB1.out⟩
                case measure => simp [intOf]; omega
              · have HS := Lib.hid (derG_eq hlo hhi)
                have ed2 : decide ((p : Int) < ix (rx xss k) x) = false := by simpa using hhi
                clear hlo hhi
                go_wp2_with fail
                go_roundw
                case rel => exact ⟨x + 1, _, by omega, by go_num, rfl, by rw [HS.out]; exact HO.out, HB.out⟩
                case measure => simp [intOf]; omega
          · obtain ⟨N, hN⟩ : ∃ N, N = (rx xss k).length := ⟨_, rfl⟩
            have hxN : x = (rx xss k).length := by omega
            have HXN := Lib.hid hxN
            have hxn2 : ¬ (x < (rx xss k).length) := hxn
            clear hxN hN
            obtain ⟨za, zl, zc, rfl⟩ := HO.out.shape
            go_wp2_with (at_builtin; refine app_list rfl _ _ rfl rfl (HR2.out.own.below (below_box _ _)) _ ((HO.out.base hsz2).alloc _) rfl (by rw [World.cell?_alloc_new]; rfl) (by omega) (by rw [World.size_alloc]; omega) ?_; intro v' w1 hown1 hgrow; obtain ⟨va, vc, rfl⟩ := hown1.shape; have HR3 := Lib.hid ((HR2.out.next (below_box _ _)).push hown1 hgrow); obtain ⟨y1, y2⟩ := (HR2.out.next (below_box _ _)).spot hgrow; clear hown1 hgrow)
            rw [List.length_append] at HR3
            go_roundw
            case rel => exact ⟨k + 1, _, by omega, by go_num, by rw [filtTo_yes Hp0.out, ← HXN.out]; exact HR3.out⟩
            case measure => simp [intOf]; omega
    · obtain rfl : k = xss.length := by omega
      go_wp2_with fail
      exact bodyPost_ret (results_pairT (p := 4) (u := 5) rfl HR.out.last Try.underlying24 rfl (by kernel_rfl) rfl) rfl
        (HR.out.doneT (by omega) (fun i hi => by
          obtain ⟨j, hj, _, e⟩ := filtTo_mem (rx_mem hi)
          have := (HDes.out.all j hj).len (n := m + 1)
          rw [e]; exact Nat.le_trans (derG_len _ _ _) (by omega)) 0)
end Go.Proofs.Ytkmcmahpfhlkhaa
