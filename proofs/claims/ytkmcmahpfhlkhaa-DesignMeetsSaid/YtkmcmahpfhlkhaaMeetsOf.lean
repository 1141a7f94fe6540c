/-
  Contracts: the reference's Together, MeetsOf. No condition.
-/
import Derived.Test.YtkmcmahpfhlkhaaMeetsLaw
import Derived.Test.YtkmcmahpfhlkhaaLies
namespace Go.Proofs.Ytkmcmahpfhlkhaa
open Go.RowKit

set_option maxHeartbeats 400000 in
theorem together_any (v u : Value) (xs ys : List Int) (w : World) (h : IntsAt w v xs) (g : IntsAt w u ys) (hl : xs.length ≤ 1000000) :
    Calls Try.prog 48 #[v, u] w fun e w' => e = .returned (.int .i64 (togTo xs ys xs.length : Nat)) ∧ w = w' := by
  have HG := Lib.hid g
  obtain ⟨a, c, rfl, h1, h2, _, h3⟩ := h
  obtain ⟨b, d, rfl, _⟩ := g
  go_enter Try.func48, Try.ntmps48
  go_wp2
  go_loop [6, 5] (fun i s => ∃ k : Nat, k ≤ xs.length ∧ i = .int .i64 k ∧ s = .int .i64 (togTo xs ys k : Nat)) (fun i _ => xs.length - (intOf i).toNat)
  case atStart => exact ⟨0, by omega, rfl, rfl⟩
  case round =>
    obtain ⟨k, hk, rfl, rfl⟩ := hrel
    have hle : togTo xs ys k ≤ k := cnt_le _ _
    by_cases hlt : k < xs.length
    · obtain ⟨b1, o1, rfl, hb, hc⟩ := h3 k hlt
      have hcell := hc k hlt
      clear hc h3
      have HC := Lib.hid (lies_any (ix xs k) _ ys w HG.out)
      have HT : Hid (togTo xs ys (k + 1) = togTo xs ys k + if mem ys (ix xs k) then 1 else 0) := rfl
      generalize togTo xs ys k = T at *
      cases ep : mem ys (ix xs k)
      all_goals
        rw [ep] at HC HT
        clear ep
        go_wp2_with (refine (HC.out).mono ?_; rintro e w' ⟨rfl, rfl⟩)
      · go_round
        case rel => exact ⟨k + 1, by omega, by go_num, by rw [HT.out]; rfl⟩
        case measure => simp [intOf]; omega
      · go_round
        case rel => exact ⟨k + 1, by omega, by go_num, by rw [HT.out]; go_num⟩
        case measure => simp [intOf]; omega
    · obtain rfl : k = xs.length := by omega
      go_wp2
      go_ret
      exact ⟨rfl, rfl⟩

/-- What stands in memory while the marks are set. -/
structure MoRel (n : Nat) (dv : Value) (xss : List (List Int)) (w : World) (i j : Nat) (wr : World) : Prop where
  box : Arr wr w.heap.size 2 (fun k => if k = 0 then Value.int .i64 (n : Int) else dv)
  flags : Flags wr (w.heap.size + 1) (n + 1) (fun z => mto n xss i z || mrow n xss i j z)
  bel : Below w.heap.size w wr
theorem MoRel.drewN {n : Nat} {dv : Value} {xss : List (List Int)} {w : World} {i j : Nat} {wr : World} (h : MoRel n dv xss w i j wr) (m : Nat) : MoRel n dv xss w i j (wr.drewN m) := ⟨h.box, h.flags, below_drewN h.bel m⟩
theorem MoRel.mark {n : Nat} {dv : Value} {xss : List (List Int)} {w : World} {i j : Nat} {wr : World} (h : MoRel n dv xss w i j wr) : MoRel n dv xss w i (j + 1) (wr.setCell ⟨w.heap.size + 1, tg n xss i j, none⟩ (.bool true)) := by
  have hq : tg n xss i j < n + 1 := by have := tg_le n xss i j; omega
  exact ⟨h.box.setOther (by show w.heap.size + 1 ≠ _; omega) _, (Flags.set h.flags hq).congr fun z _ => by simp only [mrow, Bool.or_assoc], h.bel.setCell (by show _ ≤ w.heap.size + 1; omega) _⟩
theorem MoRel.row {n : Nat} {dv : Value} {xss : List (List Int)} {w : World} {i : Nat} {wr : World} (h : MoRel n dv xss w i i wr) : MoRel n dv xss w (i + 1) 0 wr :=
  ⟨h.box, h.flags.congr fun z _ => by simp only [mto, mrow, Bool.or_false], h.bel⟩

set_option maxRecDepth 100000 in
set_option maxHeartbeats 2000000 in
theorem meetsOf_any (n : Nat) (v : Value) (xss : List (List Int)) (w : World) (h : RowsAt w v xss) (hD : IsDes n xss) :
    Calls Try.prog 30 #[.agg #[.int .i64 (n : Nat), v]] w fun e w' => ∃ u, e = .returned u ∧ IntsAt w' u (meetsL n xss) ∧ Below w.heap.size w w' := by
  have HA := Lib.hid (pair_new w (.int .i64 (n : Int)) v 24 _ rfl)
  have HB := Lib.hid (below_box w (.cells #[.int .i64 (n : Int), v] 24))
  have HDes := Lib.hid hD
  have hn := hD.hi
  have hl := hD.few
  have hnn : n ≤ 40 := by omega
  clear hD
  obtain ⟨a, c, V, rfl, h1, h2, _, h3⟩ := h
  have HX := Lib.hid h3; clear h3
  obtain ⟨b0, hb0, hbz, hbs, hbb⟩ := info_parts info_bool
  have HN : Hid ((n : Int) + 1 = ((n + 1 : Nat) : Int)) := by show _ = _; simp
  go_enter Try.func30, Try.ntmps30
  go_wp2_with (at_make; go_must (refine wpList_make_full _ rfl _ _ _ rfl (w.heap.size + 1) 4 b0 _ 1 Try.underlying68 hb0 hbz hbs _ _ _ _ (n + 1) rfl rfl HN.out HN.out (by rw [hbb]; omega) (by unfold maxLen; omega) (by simp) ?_; intro w2 hown2 hgrow2))
  have HZ2 : Hid (MoRel n (.slice a xss.length c) xss w 0 0 w2) := by
    have hg1 : ∀ k, (Value.slice none 0 0).ownBlock = some k → w.heap.size + 1 ≤ k := by intro k hk; cases hk
    have hgs := hgrow2.size
    rw [World.size_alloc] at hown2
    simp only [World.size_alloc] at hgs
    refine ⟨?_, (flags_of_made hown2).congr fun z _ => by simp [mto, mrow], (below_box w _).grown hgrow2 (by simp) (by intro k hk; cases hk)⟩
    refine Arr.kept HA.out (fun o => ?_) (fun o => ?_) (by simp; omega)
    · exact (far_cell (v := .slice none 0 0) hgrow2 (base := w.heap.size + 1) hg1 (by omega) (by simp)).1
    · exact (far_cell (v := .slice none 0 0) hgrow2 (base := w.heap.size + 1) hg1 (by omega) (by simp)).2
  clear hown2 hgrow2
  go_wp2_with fail
  go_loopw [4] (fun s wr => ∃ i : Nat, i ≤ xss.length ∧ s = .int .i64 i ∧ MoRel n (.slice a xss.length c) xss w i 0 wr) (fun s _ => xss.length - (intOf s).toNat)
  case atStart => exact ⟨0, by omega, rfl, HZ2.out⟩
  case round =>
    clear HZ2
    obtain ⟨i, hi, rfl, hR⟩ := hrel
    have HR := Lib.hid hR
    have b1 := hR.box.cell (show 1 < 2 by omega)
    clear hR
    by_cases hlt : i < xss.length
    · go_wp2_with fail
      go_loopw [5] (fun s wr => ∃ j : Nat, j ≤ i ∧ s = .int .i64 j ∧ MoRel n (.slice a xss.length c) xss w i j wr) (fun s _ => i - (intOf s).toNat)
      case atStart => exact ⟨0, by omega, rfl, HR.out⟩
      case round =>
        clear HR b1
        obtain ⟨j, hj, rfl, hR⟩ := hrel
        have HR := Lib.hid hR
        have b1 := hR.box.cell (show 1 < 2 by omega)
        have hbel := hR.bel
        clear hR
        by_cases hji : j < i
        · obtain ⟨r1, bb, oo, rfl, hbl, hcc⟩ := HX.out i hlt
          obtain ⟨r2, bb2, oo2, eb, hbl2, hcc2⟩ := HX.out j (by omega)
          injection eb with eb; injection eb with e1 e2 _; subst e1; subst e2
          have c1 := hcc i hlt
          have c2 := hcc j (by omega)
          rw [← (bcell hbel).1 _ _ hbl] at c1 c2
          have HCt : Hid (∀ m, Calls Try.prog 48 #[V i, V j] (wr.drewN m) fun e w' => e = .returned (.int .i64 (tg n xss i j : Nat)) ∧ ∃ nd', w' = (wr.drewN m).drewN nd') := fun m => by
            have h := together_any (V i) (V j) _ _ (wr.drewN m) (r1.below (below_drewN hbel _)) (r2.below (below_drewN hbel _)) (by have := (HDes.out.all i hlt).len; omega)
            rw [tg_tog HDes.out hlt] at h
            refine h.mono ?_
            rintro e w' ⟨rfl, rfl⟩
            exact ⟨rfl, 0, rfl⟩
          obtain ⟨ra1, rc1, hV1, _⟩ := r1
          obtain ⟨ra2, rc2, hV2, _⟩ := r2
          rw [hV1] at c1 HCt
          rw [hV2] at c2 HCt
          have htg := tg_le n xss i j
          have i1 : ((i : Nat) : Int) < ((xss.length : Nat) : Int) := by omega
          have i2 : ((j : Nat) : Int) < ((xss.length : Nat) : Int) := by omega
          have hq : tg n xss i j < n + 1 := by omega
          have f0 := HR.out.flags.cell hq
          have f1 := HR.out.flags.free hq
          have hq2 : ((tg n xss i j : Nat) : Int) < (n : Int) + 1 := by omega
          clear hcc hcc2 hV1 hV2 hbl2
          have HM : Hid (∀ m, MoRel n (.slice (some ⟨bb, oo, none⟩) xss.length c) xss w i (j + 1) ((wr.drewN m).setCell ⟨w.heap.size + 1, tg n xss i j, none⟩ (.bool true))) := fun m => (HR.out.drewN m).mark
          obtain ⟨q, hq0⟩ : ∃ q, q = tg n xss i j := ⟨_, rfl⟩
          rw [← hq0] at HCt hq f0 f1 hq2 HM
          generalize (mto n xss i q || mrow n xss i j q) = fv at *
          clear hq0 htg
          go_wp2_with fail
          go_quiet (exact Calls.quiet_of (HCt.out _))
          go_wp2_with fail
          go_roundw
          case rel => exact ⟨j + 1, by omega, by go_num, HM.out _⟩
          case measure => simp [intOf]; omega
        · obtain rfl : j = i := by omega
          go_wp2_with fail
          go_roundw
          case rel => exact ⟨j + 1, by omega, by go_num, HR.out.row⟩
          case measure => simp [intOf]; omega
    · obtain rfl : i = xss.length := by omega
      have HF : Hid (Flags wr (w.heap.size + 1) (n + 1) (mto n xss xss.length)) := by show Flags _ _ _ _; exact HR.out.flags.congr fun z _ => by simp only [mrow, Bool.or_false]
      have HBw := Lib.hid HR.out.bel
      clear HR
      go_wp2_with fail
      rename World => w3
      go_loopw [8, 7] (fun s l wr => ∃ (x : Nat) (z : Value), x ≤ n + 1 ∧ s = .int .i64 x ∧ l = z ∧ Own wr w3.heap.size 3 z (pickL (mto n xss xss.length) x) ∧ Below w3.heap.size w3 wr) (fun s _ _ => n + 1 - (intOf s).toNat)
      case atStart => exact ⟨0, _, by omega, rfl, rfl, own_nil _ _ _, Below.refl _ _⟩
      case round =>
        obtain ⟨x, z, hx, rfl, hz, hO, hB⟩ := hrel
        subst hz
        have HO := Lib.hid hO; have HBx := Lib.hid hB
        have hsz := hB.size
        have hpl := pickL_len (mto n xss xss.length) x
        clear hO hB
        by_cases hxn : x < n + 1
        · have fc := (HF.out.below HBx.out).cell hxn
          have hx1 : ((x : Nat) : Int) < (n : Int) + 1 := by omega
          cases em : mto n xss xss.length x
          · rw [em] at fc
            have Hp := Lib.hid em
            clear em
            go_wp2_with fail
            go_roundw
            case rel => exact ⟨x + 1, _, by omega, by go_num, rfl, by rw [pickL_no Hp.out]; exact HO.out, HBx.out⟩
            case measure => simp [intOf]; omega
          · rw [em] at fc
            have Hp := Lib.hid em
            clear em
            go_wp2_with (at_builtin; refine app_own rfl _ _ rfl rfl (HO.out.alloc _) _ _ rfl (by rw [World.cell?_alloc_new]; rfl) (by omega) (by rw [World.size_alloc]; omega) ?_; intro v' w1 hown1 hgrow)
            have HO1 := Lib.hid hown1
            have HB1 := Lib.hid ((HBx.out.alloc hsz _).grown hgrow (by rw [World.size_alloc]; omega) (fun k hk => (HO.out.block k hk).1))
            clear hown1 hgrow
            go_roundw
            case rel => exact ⟨x + 1, _, by omega, by go_num, rfl, by rw [pickL_yes Hp.out]; exact HO1.out, HB1.out⟩
            case measure => simp [intOf]; omega
        · obtain rfl : x = n + 1 := by omega
          go_wp2_with fail
          go_ret
          exact ⟨_, rfl, HO.out.intsAt (by omega), belowTrans HBw.out HBx.out⟩
end Go.Proofs.Ytkmcmahpfhlkhaa
