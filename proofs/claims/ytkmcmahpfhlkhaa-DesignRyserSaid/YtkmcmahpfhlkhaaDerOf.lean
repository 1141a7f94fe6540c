/-
  Contract: the reference's DerivedOf a design. No condition.
-/
import Derived.Test.YtkmcmahpfhlkhaaDesRel
namespace Go.Proofs.Ytkmcmahpfhlkhaa
open Go.RowKit

def shB (b : List Int) (p x : Nat) : Bool := mem b ((if x < p then x else x + 1 : Nat) : Int)
theorem shB_lo {b : List Int} {p x : Nat} (h : x < p) : shB b p x = mem b x := by unfold shB; rw [if_pos h]
theorem shB_hi {b : List Int} {p x : Nat} (h : ¬ x < p) : shB b p x = mem b ((x : Int) + 1) := by unfold shB; rw [if_neg h]; rfl
def hasP (xss : List (List Int)) (p i : Nat) : Bool := mem (rx xss i) p
def derL (m p : Nat) (xss : List (List Int)) : List (List Int) := filtTo (hasP xss p) (fun i => pickL (shB (rx xss i) p) m) xss.length

set_option maxRecDepth 100000 in
set_option maxHeartbeats 1000000 in
theorem derOf_range (n : Nat) (p : Int) (v : Value) (w : World) (hp : p < 0 ∨ (n : Int) ≤ p) :
    Calls Try.prog 27 #[.agg #[.int .i64 n, v], .int .i64 p] w (DesPostT 0 [] 1 w) := by
  have HA := Lib.hid (arr_new w n v 24)
  have HD := Lib.hid (desT_new w n v 24 1)
  by_cases h0 : p < 0
  · have e1 : decide (p < 0) = true := by simpa using h0
    clear hp
    go_enter Try.func27, Try.ntmps27
    go_wp2_with fail
    exact bodyPost_ret (results_pairT (p := 4) (u := 5) rfl HA.out Try.underlying24 rfl (by kernel_rfl) rfl) rfl HD.out
  · have e1 : decide (p < 0) = false := by simpa using h0
    have e2 : decide ((n : Int) ≤ p) = true := by simp; omega
    clear hp
    go_enter Try.func27, Try.ntmps27
    go_wp2_with fail
    exact bodyPost_ret (results_pairT (p := 4) (u := 5) rfl HA.out Try.underlying24 rfl (by kernel_rfl) rfl) rfl HD.out
set_option maxRecDepth 100000 in
set_option maxHeartbeats 1000000 in
theorem derOf_one (v : Value) (w : World) :
    Calls Try.prog 27 #[.agg #[.int .i64 1, v], .int .i64 0] w (DesPostT 0 [] 2 w) := by
  have HA := Lib.hid (arr_new w 1 v 24)
  have HD := Lib.hid (desT_new w 1 v 24 2)
  go_enter Try.func27, Try.ntmps27
  go_wp2_with fail
  exact bodyPost_ret (results_pairT (p := 4) (u := 5) rfl HA.out Try.underlying24 rfl (by kernel_rfl) rfl) rfl HD.out
set_option maxRecDepth 100000 in
set_option maxHeartbeats 1000000 in
theorem derOf_any (m p : Nat) (v : Value) (xss : List (List Int)) (w : World) (h : RowsAt w v xss) (hn : m + 1 ≤ 40) (hm : 0 < m) (hp : p < m + 1) (hl : xss.length ≤ 200) :
    Calls Try.prog 27 #[.agg #[.int .i64 ((m : Int) + 1), v], .int .i64 p] w (DesPostT m (derL m p xss) 0 w) := by
  obtain ⟨a, c, V, rfl, h1, h2, _, h3⟩ := h
  have HX := Lib.hid h3; clear h3
  have HR0 := Lib.hid (DesRel.new w ((m : Int) + 1) (.slice a xss.length c) m 24)
  have e1 : decide ((p : Int) < 0) = false := by simp
  have e2 : decide ((m : Int) + 1 ≤ (p : Int)) = false := by simp; omega
  have e3 : (((m : Int) + 1) == 1) = false := by simp; omega
  have i1 : IntKind.i64.wrap ((m : Int) + 1 - 1) = (m : Int) := by rw [show (m : Int) + 1 - 1 = (m : Int) by omega]; exact IntWalk.i64_in _ (by omega)
  go_enter Try.func27, Try.ntmps27
  go_wp2_with fail
  clear e1 e2 e3
  go_loopw [7] (fun s wr => ∃ (k : Nat) (u : Value), k ≤ xss.length ∧ s = .int .i64 k ∧ DesRel w wr (w.heap.size + 1 + 1) ((m : Int) + 1) (.slice a xss.length c) m u (filtTo (hasP xss p) (fun i => pickL (shB (rx xss i) p) m) k)) (fun s _ => xss.length - (intOf s).toNat)
  case atStart => exact ⟨0, _, by omega, rfl, HR0.out⟩
  case round =>
    clear HR0
    obtain ⟨k, u, hk, rfl, hR⟩ := hrel
    rename World => W0
    obtain ⟨ua, uc, rfl⟩ := hR.own.shape
    have hkl := filtTo_len (hasP xss p) (fun i => pickL (shB (rx xss i) p) m) k
    have HR := Lib.hid hR
    have b0 := hR.box.cell (show 0 < 2 by omega); have b1 := hR.box.cell (show 1 < 2 by omega)
    have o0 := hR.out.cell (show 0 < 2 by omega); have o1 := hR.out.cell (show 1 < 2 by omega); have o2 := hR.out.free (show 1 < 2 by omega)
    have r0 := hR.res.cell (show 0 < 2 by omega); have r1 := hR.res.cell (show 1 < 2 by omega)
    have f0 := hR.res.free (show 0 < 2 by omega); have f1 := hR.res.free (show 1 < 2 by omega)
    clear hR
    by_cases hlt : k < xss.length
    · obtain ⟨hrow, b, o, rfl, hb, hc⟩ := HX.out k hlt
      have hcell := hc k hlt
      have hcell1 := hcell
      rw [← (bcell HR.out.bel).1 _ _ hb] at hcell1
      clear hc
      obtain ⟨ra, rc, hV, e1, e2, _⟩ := id hrow
      rw [hV] at hcell hrow hcell1
      have HRow := Lib.hid hrow
      clear hV hrow
      have HL0 := Lib.hid (lies_any p _ _ W0 (HRow.out.below HR.out.bel))
      cases ep : mem (rx xss k) p
      · have Hp0 : Hid (hasP xss p k = false) := by show _ = _; unfold hasP; rw [ep]
        rw [ep] at HL0
        clear ep
        go_wp2_with (refine (HL0.out).mono ?_; rintro e w' ⟨rfl, rfl⟩)
        go_roundw
        case rel => exact ⟨k + 1, _, by omega, by go_num, by rw [filtTo_no Hp0.out]; exact HR.out⟩
        case measure => simp [intOf]; omega
      · have Hp0 : Hid (hasP xss p k = true) := by show _ = _; unfold hasP; rw [ep]
        rw [ep] at HL0
        clear ep
        go_wp2_with (refine (HL0.out).mono ?_; rintro e w' ⟨rfl, rfl⟩)
        clear b0 b1 o0 o1 o2 r0 r1 f0 f1 HL0 hcell1
        go_loopw [10, 9] (fun s l wr2 => ∃ (x : Nat) (z : Value), x ≤ m ∧ s = .int .i64 x ∧ l = z ∧ Own wr2 W0.heap.size 3 z (pickL (shB (rx xss k) p) x) ∧ Below W0.heap.size W0 wr2) (fun s _ _ => m - (intOf s).toNat)
        case atStart => exact ⟨0, _, by omega, rfl, rfl, own_nil _ _ _, Below.refl _ _⟩
        case round =>
          obtain ⟨x, z, hx, rfl, hz, hO, hB⟩ := hrel
          subst hz
          have HO := Lib.hid hO; have HB := Lib.hid hB
          have HR2 := Lib.hid (HR.out.next hB)
          have b0 := HR2.out.box.cell (show 0 < 2 by omega); have b1 := HR2.out.box.cell (show 1 < 2 by omega)
          have o0 := HR2.out.out.cell (show 0 < 2 by omega); have o1 := HR2.out.out.cell (show 1 < 2 by omega); have o2 := HR2.out.out.free (show 1 < 2 by omega)
          have hsz := hB.size
          have hsz2 := HR.out.size
          have hpl := pickL_len (shB (rx xss k) p) x
          have hcell2 := hcell
          rw [← (bcell HR2.out.bel).1 _ _ hb] at hcell2
          clear hO hB
          by_cases hxn : x < m
          · clear o0 o1 o2
            by_cases hxp : x < p
            · have ed : decide ((p : Int) ≤ (x : Int)) = false := by simp; omega
              have HL := Lib.hid (lies_any x _ _ wr (HRow.out.below HR2.out.bel))
              have HS := Lib.hid (shB_lo (b := rx xss k) hxp)
              cases em : mem (rx xss k) x
              · rw [em] at HL HS
                clear em
                go_wp2_with (refine (HL.out).mono ?_; rintro e w' ⟨rfl, rfl⟩)
                go_roundw
                case rel => exact ⟨x + 1, _, by omega, by go_num, rfl, by rw [pickL_no HS.out]; exact HO.out, HB.out⟩
                case measure => simp [intOf]; omega
              · rw [em] at HL HS
                clear em
                go_wp2_with (first
                  | (refine (HL.out).mono ?_; rintro e w' ⟨rfl, rfl⟩)
                  | (at_builtin; refine app_own rfl _ _ rfl rfl (HO.out.alloc _) _ _ rfl (by rw [World.cell?_alloc_new]; rfl) (by omega) (by rw [World.size_alloc]; omega) ?_; intro v' w1 hown1 hgrow))
                have HO1 := Lib.hid hown1
                have HB1 := Lib.hid ((HB.out.alloc hsz _).grown hgrow (by rw [World.size_alloc]; omega) (fun k hk => (HO.out.block k hk).1))
                clear hown1 hgrow
                go_roundw
                case rel => exact ⟨x + 1, _, by omega, by go_num, rfl, by rw [pickL_yes HS.out]; exact HO1.out, HB1.out⟩
                case measure => simp [intOf]; omega
            · have ed : decide ((p : Int) ≤ (x : Int)) = true := by simp; omega
              have HL := Lib.hid (lies_any ((x : Int) + 1) _ _ wr (HRow.out.below HR2.out.bel))
              have HS := Lib.hid (shB_hi (b := rx xss k) hxp)
              cases em : mem (rx xss k) ((x : Int) + 1)
              · rw [em] at HL HS
                clear em
                go_wp2_with (refine (HL.out).mono ?_; rintro e w' ⟨rfl, rfl⟩)
                go_roundw
                case rel => exact ⟨x + 1, _, by omega, by go_num, rfl, by rw [pickL_no HS.out]; exact HO.out, HB.out⟩
                case measure => simp [intOf]; omega
              · rw [em] at HL HS
                clear em
                go_wp2_with (first
                  | (refine (HL.out).mono ?_; rintro e w' ⟨rfl, rfl⟩)
                  | (at_builtin; refine app_own rfl _ _ rfl rfl (HO.out.alloc _) _ _ rfl (by rw [World.cell?_alloc_new]; rfl) (by omega) (by rw [World.size_alloc]; omega) ?_; intro v' w1 hown1 hgrow))
                have HO1 := Lib.hid hown1
                have HB1 := Lib.hid ((HB.out.alloc hsz _).grown hgrow (by rw [World.size_alloc]; omega) (fun k hk => (HO.out.block k hk).1))
                clear hown1 hgrow
                go_roundw
                case rel => exact ⟨x + 1, _, by omega, by go_num, rfl, by rw [pickL_yes HS.out]; exact HO1.out, HB1.out⟩
                case measure => simp [intOf]; omega
          · obtain rfl : x = m := by omega
            obtain ⟨za, zl, zc, rfl⟩ := HO.out.shape
            go_wp2_with (at_builtin; refine app_list rfl _ _ rfl rfl (HR2.out.own.below (below_box _ _)) _ ((HO.out.base hsz2).alloc _) rfl (by rw [World.cell?_alloc_new]; rfl) (by omega) (by rw [World.size_alloc]; omega) ?_; intro v' w1 hown1 hgrow; obtain ⟨va, vc, rfl⟩ := hown1.shape; have HR3 := Lib.hid ((HR2.out.next (below_box _ _)).push hown1 hgrow); obtain ⟨y1, y2⟩ := (HR2.out.next (below_box _ _)).spot hgrow; clear hown1 hgrow)
            rw [List.length_append] at HR3
            go_roundw
            case rel => exact ⟨k + 1, _, by omega, by go_num, by rw [filtTo_yes Hp0.out]; exact HR3.out⟩
            case measure => simp [intOf]; omega
    · obtain rfl : k = xss.length := by omega
      go_wp2_with fail
      exact bodyPost_ret (results_pairT (p := 4) (u := 5) rfl HR.out.last Try.underlying24 rfl (by kernel_rfl) rfl) rfl
        (HR.out.doneT (by omega) (fun i hi => by
          obtain ⟨j, _, _, e⟩ := filtTo_mem (rx_mem hi)
          rw [e]; exact Nat.le_trans (pickL_len _ _) (by omega)) 0)
end Go.Proofs.Ytkmcmahpfhlkhaa
