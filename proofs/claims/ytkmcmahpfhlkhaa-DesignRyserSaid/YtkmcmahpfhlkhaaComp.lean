/-
  Contract: design.Complement. No condition.
-/
import Derived.Test.YtkmcmahpfhlkhaaDSets
import Derived.Test.YtkmcmahpfhlkhaaCompOf
import Derived.Test.YtkmcmahpfhlkhaaResOf
namespace Go.Proofs.Ytkmcmahpfhlkhaa
open Go.RowKit

theorem shr_zero_u (c j : Nat) (hc : c < 18446744073709551616) : (bits .and .u64 ((c : Int) / 2 ^ j) 1 == 0) = !tb c j := by
  have h1 : ((c : Int) / 2 ^ j) = ((c / 2 ^ j : Nat) : Int) := by rw [Int.natCast_ediv, Int.natCast_pow]; rfl
  have h2 : c / 2 ^ j ≤ c := Nat.div_le_self _ _
  rw [h1, show (1 : Int) = ((1 : Nat) : Int) from rfl, u64_and_nat _ _ (by omega) (by omega), Nat.and_one_is_mod]
  unfold tb
  rw [Nat.testBit_eq_decide_div_mod_eq]
  have := Nat.mod_two_eq_zero_or_one (c / 2 ^ j)
  rcases this with e | e <;> simp [e]
theorem OwnU.base {w : World} {base base' : Nat} {v : Value} {ss : List Nat} (h : OwnU w base v ss) (hb : base' ≤ base) : OwnU w base' v ss := by
  obtain ⟨h1, h2⟩ := h
  refine ⟨h1, ?_⟩
  rcases h2 with h2 | ⟨g, cap, cur, e, hg, r⟩
  · exact .inl h2
  · exact .inr ⟨g, cap, cur, e, by omega, r⟩
theorem OwnU.alloc {w : World} {base : Nat} {v : Value} {ss : List Nat} (h : OwnU w base v ss) (o : Obj) : OwnU (w.alloc o) base v ss := World.ownsRow.alloc h o
theorem ownU_push {w w' : World} {base base' : Nat} {v u : Value} {ss : List Nat} {xss : List (List Int)} (h : OwnU w base v ss) (hL : OwnL w base' u xss) (hg : w.grownBy w' u.ownBlock) : OwnU w' base v ss := by
  obtain ⟨V, h1, _⟩ := hL
  exact World.ownsRow.kept h hg (own_apart (by decide) h h1)
theorem desNe {n : Int} {xss : List (List Int)} (h : desFault n xss ≠ 0) : (desFault n xss == 0) = false := by simpa using h

set_option maxRecDepth 100000 in
set_option maxHeartbeats 1000000 in
theorem comp_bad (n : Int) (v : Value) (xss : List (List Int)) (w : World) (h : RowsAt w v xss) (hf : desFault n xss ≠ 0) :
    Calls Try.prog 20 #[.agg #[.int .i64 n, v]] w (DesPostT 0 [] (desFault n xss) w) := by
  have hne := desNe hf
  have HC := Lib.hid (check_any n v xss _ (h.below (belowTrans (below_box w (.cells #[.int .i64 n, v] 24)) (below_box _ (.cells #[.int .i64 0, .slice none 0 0] 24)))))
  have HR := Lib.hid (arr_new w n v 24)
  clear h hf
  generalize desFault n xss = e0 at *
  go_enter Try.func20, Try.ntmps20
  go_wp2_with fail
  refine (HC.out).mono ?_
  rintro e w1 ⟨rfl, hb⟩
  have HR1 := Lib.hid (HR.out.below hb)
  have r0 := HR1.out.cell (show 0 < 2 by omega); have r1 := HR1.out.cell (show 1 < 2 by omega)
  have f0 := HR1.out.free (show 0 < 2 by omega); have f1 := HR1.out.free (show 1 < 2 by omega)
  have HD := Lib.hid (desT_late hb e0)
  have HA := Lib.hid ((HR1.out.set (show 0 < 2 by omega) (.int .i64 0)).set (show 1 < 2 by omega) (.slice none 0 0))
  clear hb
  go_wp2_with fail
  exact bodyPost_ret (results_pairT (p := 2) (u := 3) rfl HA.out Try.underlying24 rfl (by kernel_rfl) rfl) rfl HD.out

set_option maxRecDepth 100000 in
set_option maxHeartbeats 1000000 in
theorem comp_any (n : Nat) (v : Value) (xss : List (List Int)) (w : World) (h : RowsAt w v xss) (hD : IsDes n xss) :
    Calls Try.prog 20 #[.agg #[.int .i64 n, v]] w (DesPostT n (compL n xss) 0 w) := by
  have HV := Lib.hid h
  have HC := Lib.hid (check_any n v xss _ (h.below (belowTrans (below_box w (.cells #[.int .i64 (n : Int), v] 24)) (below_box _ (.cells #[.int .i64 0, .slice none 0 0] 24)))))
  rw [hD.fault] at HC
  have HDes := Lib.hid hD
  have hn := hD.hi
  have hl := hD.few
  clear hD
  have HB : Hid (Arr ((w.alloc (.cells #[.int .i64 (n : Int), v] 24)).alloc (.cells #[.int .i64 0, .slice none 0 0] 24)) w.heap.size 2 (fun j => if j = 0 then Value.int .i64 n else v)) := (pair_new _ _ _ _ _ rfl).alloc _
  obtain ⟨a, c, V, rfl, h1, h2, _, h3⟩ := h
  clear h3
  go_enter Try.func20, Try.ntmps20
  go_wp2_with fail
  refine (HC.out).mono ?_
  rintro e w1 ⟨rfl, hb⟩
  have HR0 := Lib.hid (DesRel.late hb n)
  have b0 := (HB.out.below hb).cell (show 0 < 2 by omega); have b1 := (HB.out.below hb).cell (show 1 < 2 by omega)
  have hzs := hb.size
  simp only [World.size_alloc] at hzs
  have hz0 : w.heap.size < w1.heap.size := by omega
  have hz1 : w.heap.size + 1 < w1.heap.size := by omega
  clear hb HB hzs
  have HS := Lib.hid (sets_any n _ xss _ (HV.out.below HR0.out.bel) HDes.out)
  go_wp2_with fail
  refine (HS.out).mono ?_
  rintro e W3 ⟨sv, rfl, hown, hb3⟩
  have HO3 := Lib.hid (OwnU.base hown (show w1.heap.size + 1 ≤ _ by simp))
  have HR3 := Lib.hid (HR0.out.next hb3)
  obtain ⟨sa, sc, hsv⟩ := OwnU.shape hown
  rw [setsTo_len] at hsv
  subst hsv
  clear hown hb3 HR0 HS b0 b1
  go_wp2_with fail
  go_loopw [22] (fun s wr => ∃ (k : Nat) (u : Value), k ≤ xss.length ∧ s = .int .i64 k ∧ OwnU wr (w1.heap.size + 1) (.slice sa xss.length sc) (setsTo xss xss.length) ∧ DesRel w wr w1.heap.size n (.slice a xss.length c) n u (rowsTo (fun i => pickL (offB (rx xss i)) n) k)) (fun s _ => xss.length - (intOf s).toNat)
  case atStart => exact ⟨0, _, by omega, rfl, HO3.out, HR3.out⟩
  case round =>
    clear HO3 HR3
    obtain ⟨k, u, hk, rfl, hU, hR⟩ := hrel
    rename World => W0
    obtain ⟨ua, uc, rfl⟩ := hR.own.shape
    have hkl := rowsTo_len (fun i => pickL (offB (rx xss i)) n) k
    rw [hkl] at hR
    have HR := Lib.hid hR
    have HU := Lib.hid hU
    have b0 := hR.box.cell (show 0 < 2 by omega); have b1 := hR.box.cell (show 1 < 2 by omega)
    have o0 := hR.out.cell (show 0 < 2 by omega); have o1 := hR.out.cell (show 1 < 2 by omega); have o2 := hR.out.free (show 1 < 2 by omega)
    have r0 := hR.res.cell (show 0 < 2 by omega); have r1 := hR.res.cell (show 1 < 2 by omega)
    have f0 := hR.res.free (show 0 < 2 by omega); have f1 := hR.res.free (show 1 < 2 by omega)
    clear hR hU
    by_cases hlt : k < xss.length
    · obtain ⟨g, gc, eg, hg, hcell⟩ := HU.out.cell (i := k) (by rw [setsTo_len]; exact hlt)
      injection eg with eg1 eg2 eg3
      subst eg1
      rw [setsTo_get xss hlt] at hcell
      have hbl := HDes.out.all k hlt
      have hS := setOf_lt hbl
      have hp40 : 2 ^ n ≤ 2 ^ 40 := Nat.pow_le_pow_right (by omega) (by omega)
      have hSl : setOf (rx xss k) < 18446744073709551616 := by omega
      have HT : Hid (∀ x, offB (rx xss k) x = !tb (setOf (rx xss k)) x) := fun x => by unfold offB; rw [tb_setOf hbl]
      clear eg2 eg3 hS hp40 hbl
      generalize setOf (rx xss k) = S at *
      go_wp2_with fail
      clear b0 b1 o0 o1 o2 r0 r1 f0 f1 hcell
      go_loopw [28, 8] (fun s l wr2 => ∃ (x : Nat) (z : Value), x ≤ n ∧ s = .int .i64 x ∧ l = z ∧ Own wr2 W0.heap.size 3 z (pickL (offB (rx xss k)) x) ∧ Below W0.heap.size W0 wr2) (fun s _ _ => n - (intOf s).toNat)
      case atStart => exact ⟨0, _, by omega, rfl, rfl, own_nil _ _ _, Below.refl _ _⟩
      case round =>
        obtain ⟨x, z, hx, rfl, hz, hO, hB⟩ := hrel
        subst hz
        have HO := Lib.hid hO; have HB := Lib.hid hB
        have HR2 := Lib.hid (HR.out.next hB)
        have HU2 := Lib.hid (ownU_below HU.out hB)
        have o0 := HR2.out.out.cell (show 0 < 2 by omega); have o1 := HR2.out.out.cell (show 1 < 2 by omega); have o2 := HR2.out.out.free (show 1 < 2 by omega)
        have hsz := hB.size
        have hsz2 := HR.out.size
        have hpl := pickL_len (offB (rx xss k)) x
        clear hO hB
        by_cases hxn : x < n
        · clear o0 o1 o2
          have ht := shr_zero_u S x hSl
          have HTx := Lib.hid (HT.out x)
          cases em : tb S x
          · rw [em] at ht
            have Hp : Hid (offB (rx xss k) x = true) := by show _ = _; rw [HTx.out, em]; rfl
            clear em
            go_wp2_with (at_builtin; refine app_own rfl _ _ rfl rfl (HO.out.alloc _) _ _ rfl (by rw [World.cell?_alloc_new]; rfl) (by omega) (by rw [World.size_alloc]; omega) ?_; intro v' w1 hown1 hgrow)
            have HO1 := Lib.hid hown1
            have HB1 := Lib.hid ((HB.out.alloc hsz _).grown hgrow (by rw [World.size_alloc]; omega) (fun k hk => (HO.out.block k hk).1))
            clear hown1 hgrow
            go_roundw
            case rel => exact ⟨x + 1, _, by omega, by go_num, rfl, by rw [pickL_yes Hp.out]; exact HO1.out, HB1.out⟩
            case measure => simp [intOf]; omega
          · rw [em] at ht
            have Hp : Hid (offB (rx xss k) x = false) := by show _ = _; rw [HTx.out, em]; rfl
            clear em
            go_wp2_with fail
            go_roundw
            case rel => exact ⟨x + 1, _, by omega, by go_num, rfl, by rw [pickL_no Hp.out]; exact HO.out, HB.out⟩
            case measure => simp [intOf]; omega
        · obtain rfl : x = n := by omega
          obtain ⟨za, zl, zc, rfl⟩ := HO.out.shape
          go_wp2_with (at_builtin; refine app_list rfl _ _ rfl rfl (HR2.out.own.below (below_box _ _)) _ ((HO.out.base hsz2).alloc _) rfl (by rw [World.cell?_alloc_new]; rfl) (by omega) (by rw [World.size_alloc]; omega) ?_; intro v' w1 hown1 hgrow; obtain ⟨va, vc, rfl⟩ := hown1.shape; have HR3 := Lib.hid ((HR2.out.next (below_box _ _)).push hown1 hgrow); have HU3 := Lib.hid (ownU_push (HU2.out.alloc _) (HR2.out.own.below (below_box _ _)) hgrow); obtain ⟨y1, y2⟩ := (HR2.out.next (below_box _ _)).spot hgrow; clear hown1 hgrow)
          rw [List.length_append, hkl] at HR3
          go_roundw
          case rel => exact ⟨k + 1, _, by omega, by go_num, ownsRow_setCell_below HU3.out (by simp) _, HR3.out⟩
          case measure => simp [intOf]; omega
    · obtain rfl : k = xss.length := by omega
      go_wp2_with fail
      exact bodyPost_ret (results_pairT (p := 2) (u := 3) rfl HR.out.last Try.underlying24 rfl (by kernel_rfl) rfl) rfl
        (HR.out.doneT (by rw [rowsTo_len]; omega) (fun i hi => by rw [rowsTo_len] at hi; rw [rowsTo_rx _ hi]; exact Nat.le_trans (pickL_len _ _) (by omega)) 0)
end Go.Proofs.Ytkmcmahpfhlkhaa
