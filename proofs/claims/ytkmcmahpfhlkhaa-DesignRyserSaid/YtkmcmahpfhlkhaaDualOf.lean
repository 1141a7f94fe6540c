/-
  Contract: the reference's DualOf a design. No condition.
-/
import Derived.Test.YtkmcmahpfhlkhaaDesRel
namespace Go.Proofs.Ytkmcmahpfhlkhaa
open Go.RowKit

def inB (xss : List (List Int)) (x i : Nat) : Bool := mem (rx xss i) x
def dualL (n : Nat) (xss : List (List Int)) : List (List Int) := rowsTo (fun x => pickL (inB xss x) xss.length) n

set_option maxRecDepth 100000 in
set_option maxHeartbeats 1000000 in
theorem dualOf_full (n : Nat) (v : Value) (xss : List (List Int)) (w : World) (h : RowsAt w v xss) (hl : 40 < xss.length) :
    Calls Try.prog 26 #[.agg #[.int .i64 n, v]] w (DesPostT 0 [] 3 w) := by
  obtain ⟨a, c, V, rfl, h1, h2, _, h3⟩ := h
  clear h3
  have ed : decide ((40 : Int) < (xss.length : Int)) = true := by simp; omega
  have HA := Lib.hid (arr_new w n (.slice a xss.length c) 24)
  have HD := Lib.hid (desT_new w n (.slice a xss.length c) 24 3)
  go_enter Try.func26, Try.ntmps26
  go_wp2_with fail
  exact bodyPost_ret (results_pairT (p := 2) (u := 3) rfl HA.out Try.underlying24 rfl (by kernel_rfl) rfl) rfl HD.out
set_option maxRecDepth 100000 in
set_option maxHeartbeats 1000000 in
theorem dualOf_none (n : Nat) (v : Value) (w : World) (h : RowsAt w v []) :
    Calls Try.prog 26 #[.agg #[.int .i64 n, v]] w (DesPostT 0 [] 4 w) := by
  obtain ⟨a, c, V, rfl, h1, h2, _, h3⟩ := h
  clear h3
  have HA := Lib.hid (arr_new w n (.slice a 0 c) 24)
  have HD := Lib.hid (desT_new w n (.slice a 0 c) 24 4)
  go_enter Try.func26, Try.ntmps26
  go_wp2_with fail
  exact bodyPost_ret (results_pairT (p := 2) (u := 3) rfl HA.out Try.underlying24 rfl (by kernel_rfl) rfl) rfl HD.out
set_option maxRecDepth 100000 in
set_option maxHeartbeats 1000000 in
theorem dualOf_any (n : Nat) (v : Value) (xss : List (List Int)) (w : World) (h : RowsAt w v xss) (hn : n ≤ 40) (hl : xss.length ≤ 40) (hl0 : 0 < xss.length) :
    Calls Try.prog 26 #[.agg #[.int .i64 n, v]] w (DesPostT xss.length (dualL n xss) 0 w) := by
  obtain ⟨a, c, V, rfl, h1, h2, _, h3⟩ := h
  have HX := Lib.hid h3; clear h3
  have HR0 := Lib.hid (DesRel.new w n (.slice a xss.length c) xss.length 24)
  have ed : decide ((40 : Int) < (xss.length : Int)) = false := by simp; omega
  have ed2 : ((xss.length : Int) == 0) = false := by simp; intro e; rw [e] at hl0; exact absurd hl0 (by simp)
  go_enter Try.func26, Try.ntmps26
  go_wp2_with fail
  go_loopw [5] (fun s wr => ∃ (k : Nat) (u : Value), k ≤ n ∧ s = .int .i64 k ∧ DesRel w wr (w.heap.size + 1 + 1) n (.slice a xss.length c) xss.length u (rowsTo (fun x => pickL (inB xss x) xss.length) k)) (fun s _ => n - (intOf s).toNat)
  case atStart => exact ⟨0, _, by omega, rfl, HR0.out⟩
  case round =>
    clear HR0
    obtain ⟨k, u, hk, rfl, hR⟩ := hrel
    rename World => W0
    obtain ⟨ua, uc, rfl⟩ := hR.own.shape
    have hkl := rowsTo_len (fun x => pickL (inB xss x) xss.length) k
    rw [hkl] at hR
    have HR := Lib.hid hR
    have b0 := hR.box.cell (show 0 < 2 by omega); have b1 := hR.box.cell (show 1 < 2 by omega)
    have o0 := hR.out.cell (show 0 < 2 by omega); have o1 := hR.out.cell (show 1 < 2 by omega); have o2 := hR.out.free (show 1 < 2 by omega)
    have r0 := hR.res.cell (show 0 < 2 by omega); have r1 := hR.res.cell (show 1 < 2 by omega)
    have f0 := hR.res.free (show 0 < 2 by omega); have f1 := hR.res.free (show 1 < 2 by omega)
    clear hR
    by_cases hlt : k < n
    · go_wp2_with fail
      clear b0 b1 o0 o1 o2 r0 r1 f0 f1
      go_loopw [7, 6] (fun s l wr2 => ∃ (x : Nat) (z : Value), x ≤ xss.length ∧ s = .int .i64 x ∧ l = z ∧ Own wr2 W0.heap.size 3 z (pickL (inB xss k) x) ∧ Below W0.heap.size W0 wr2) (fun s _ _ => xss.length - (intOf s).toNat)
      case atStart => exact ⟨0, _, by omega, rfl, rfl, own_nil _ _ _, Below.refl _ _⟩
      case round =>
        obtain ⟨x, z, hx, rfl, hz, hO, hB⟩ := hrel
        subst hz
        have HO := Lib.hid hO; have HB := Lib.hid hB
        have HR2 := Lib.hid (HR.out.next hB)
        have b0 := HR2.out.box.cell (show 0 < 2 by omega); have b1 := HR2.out.box.cell (show 1 < 2 by omega)
        have o0 := HR2.out.out.cell (show 0 < 2 by omega); have o1 := HR2.out.out.cell (show 1 < 2 by omega); have o2 := HR2.out.out.free (show 1 < 2 by omega)
        have hsz := hB.size
        have hsz2 := HR.out.size
        have hpl := pickL_len (inB xss k) x
        clear hO hB
        by_cases hxn : x < xss.length
        · obtain ⟨hrow, b, o, rfl, hb, hc⟩ := HX.out x hxn
          have hcell2 := hc x hxn
          rw [← (bcell HR2.out.bel).1 _ _ hb] at hcell2
          clear hc
          obtain ⟨ra, rc, hV, e1, e2, _⟩ := id hrow
          rw [hV] at hcell2 hrow
          have HL := Lib.hid (lies_any k _ _ wr (hrow.below HR2.out.bel))
          clear o0 o1 o2 hV hrow
          cases em : mem (rx xss x) k
          · have Hp : Hid (inB xss k x = false) := by show _ = _; unfold inB; rw [em]
            rw [em] at HL
            clear em
            go_wp2_with (refine (HL.out).mono ?_; rintro e w' ⟨rfl, rfl⟩)
            go_roundw
            case rel => exact ⟨x + 1, _, by omega, by go_num, rfl, by rw [pickL_no Hp.out]; exact HO.out, HB.out⟩
            case measure => simp [intOf]; omega
          · have Hp : Hid (inB xss k x = true) := by show _ = _; unfold inB; rw [em]
            rw [em] at HL
            clear em
            go_wp2_with (first
              | (refine (HL.out).mono ?_; rintro e w' ⟨rfl, rfl⟩)
              | (at_builtin; refine app_own rfl _ _ rfl rfl (HO.out.alloc _) _ _ rfl (by rw [World.cell?_alloc_new]; rfl) (by omega) (by rw [World.size_alloc]; omega) ?_; intro v' w1 hown1 hgrow))
            have HO1 := Lib.hid hown1
            have HB1 := Lib.hid ((HB.out.alloc hsz _).grown hgrow (by rw [World.size_alloc]; omega) (fun k hk => (HO.out.block k hk).1))
            clear hown1 hgrow
            go_roundw
            case rel => exact ⟨x + 1, _, by omega, by go_num, rfl, by rw [pickL_yes Hp.out]; exact HO1.out, HB1.out⟩
            case measure => simp [intOf]; omega
        · obtain rfl : x = xss.length := by omega
          obtain ⟨za, zl, zc, rfl⟩ := HO.out.shape
          go_wp2_with (at_builtin; refine app_list rfl _ _ rfl rfl (HR2.out.own.below (below_box _ _)) _ ((HO.out.base hsz2).alloc _) rfl (by rw [World.cell?_alloc_new]; rfl) (by omega) (by rw [World.size_alloc]; omega) ?_; intro v' w1 hown1 hgrow; obtain ⟨va, vc, rfl⟩ := hown1.shape; have HR3 := Lib.hid ((HR2.out.next (below_box _ _)).push hown1 hgrow); obtain ⟨y1, y2⟩ := (HR2.out.next (below_box _ _)).spot hgrow; clear hown1 hgrow)
          rw [List.length_append, hkl] at HR3
          go_roundw
          case rel => exact ⟨k + 1, _, by omega, by go_num, HR3.out⟩
          case measure => simp [intOf]; omega
    · obtain rfl : k = n := by omega
      go_wp2_with fail
      exact bodyPost_ret (results_pairT (p := 2) (u := 3) rfl HR.out.last Try.underlying24 rfl (by kernel_rfl) rfl) rfl
        (HR.out.doneT (by rw [rowsTo_len]; omega) (fun i hi => by rw [rowsTo_len] at hi; rw [rowsTo_rx _ hi]; exact Nat.le_trans (pickL_len _ _) (by omega)) 0)
end Go.Proofs.Ytkmcmahpfhlkhaa
