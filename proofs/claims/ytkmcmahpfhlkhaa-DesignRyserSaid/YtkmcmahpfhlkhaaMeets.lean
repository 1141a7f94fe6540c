/-
  Contract: design.Meets. No condition.
-/
import Derived.Test.YtkmcmahpfhlkhaaMeetsLaw
import Derived.Test.YtkmcmahpfhlkhaaOnesC
import Derived.Test.YtkmcmahpfhlkhaaSlice
namespace Go.Proofs.Ytkmcmahpfhlkhaa
open Go.RowKit

/-- A list of numbers and an error. -/
def NumsPost (l : List Int) (e0 : Int) (w : World) (e : Ending) (w' : World) : Prop := ∃ v, e = .returned (.tuple #[v, .int .i64 e0]) ∧ IntsAt w' v l ∧ Below w.heap.size w w'
theorem size_set (w : World) : (Go.sizeOf (Try.prog.elem 44)).run Try.prog w = .ok 1 w := by kernel_rfl
theorem und_sets : Try.prog.underlying 44 = some (.slice (Try.prog.elem 44)) := by kernel_rfl
theorem run_front (w : World) (a : Option Addr) (n c h : Nat) (hh : h ≤ c) :
    (Instr.slice 44 (.slice a n c) none (some (.int .i64 (h : Int))) none).run Try.prog w = .ok (.slice a h c) w := by
  rw [run_slice_h w 44 a n c und_sets .i64 h (by omega) (by omega), size_set]
  cases a with
  | none => simp [Result.andThen, sliced]
  | some p => cases p; simp [Result.andThen, sliced, Addr.add]

set_option maxRecDepth 100000 in
set_option maxHeartbeats 1000000 in
theorem meets_bad (n : Int) (v : Value) (xss : List (List Int)) (w : World) (h : RowsAt w v xss) (hf : desFault n xss ≠ 0) :
    Calls Try.prog 29 #[.agg #[.int .i64 n, v]] w (NumsPost [] (desFault n xss) w) := by
  have hne : (desFault n xss != 0) = true := by simpa using hf
  have HB := Lib.hid (below_box w (.cells #[.int .i64 n, v] 24))
  have HC := Lib.hid (check_any n v xss _ (h.below HB.out))
  clear h hf
  generalize desFault n xss = e0 at *
  go_enter Try.func29, Try.ntmps29
  go_wp2_with fail
  refine (HC.out).mono ?_
  rintro e w1 ⟨rfl, hb⟩
  have HB1 := Lib.hid (belowTrans HB.out hb)
  clear hb
  go_wp2_with fail
  go_ret2
  exact ⟨_, rfl, intsAt_nil _, HB1.out⟩

set_option maxRecDepth 100000 in
set_option maxHeartbeats 2000000 in
theorem meets_any (n : Nat) (v : Value) (xss : List (List Int)) (w : World) (h : RowsAt w v xss) (hD : IsDes n xss) :
    Calls Try.prog 29 #[.agg #[.int .i64 (n : Nat), v]] w (NumsPost (meetsL n xss) 0 w) := by
  have HV := Lib.hid h
  have HB := Lib.hid (below_box w (.cells #[.int .i64 (n : Int), v] 24))
  have HA := Lib.hid (pair_new w (.int .i64 (n : Int)) v 24 _ rfl)
  have HC := Lib.hid (check_any n v xss _ (h.below HB.out))
  rw [hD.fault] at HC
  have HDes := Lib.hid hD
  have hn := hD.hi
  have hl := hD.few
  have hnn : n ≤ 40 := by omega
  clear hD
  obtain ⟨a, c, V, rfl, h1, h2, _, h3⟩ := h
  clear h3
  go_enter Try.func29, Try.ntmps29
  go_wp2_with fail
  refine (HC.out).mono ?_
  rintro e w1 ⟨rfl, hb⟩
  have HB1 := Lib.hid (belowTrans HB.out hb)
  have HA1 := Lib.hid (HA.out.below hb)
  have b0 := HA1.out.cell (show 0 < 2 by omega); have b1 := HA1.out.cell (show 1 < 2 by omega)
  clear hb HC
  go_wp2_with fail
  refine (sets_any n _ xss _ (HV.out.below HB1.out) HDes.out).mono ?_
  rintro e w2 ⟨sv, rfl, hown, hb⟩
  have HB2 := Lib.hid (belowTrans HB1.out hb)
  obtain ⟨sa, sc, hsv⟩ := OwnU.shape hown
  rw [setsTo_len] at hsv
  subst hsv
  have HO2 := Lib.hid hown
  have hsc : xss.length ≤ sc := by
    rcases hown.2 with ⟨e, e2⟩ | ⟨g, cap, cur, e, hg, hh, hc, hm, hs, ht⟩
    · rw [setsTo_len] at e2; injection e with e1 e2' e3; omega
    · rw [setsTo_len] at hc; injection e with e1 e2' e3; omega
  clear hown hb b0 b1 HA1 HA HB
  go_wp2_with fail
  go_loopw [21, 5] (fun s l wr => ∃ (i : Nat) (L : List Int) (z : Value), i ≤ xss.length ∧ s = .int .i64 i ∧ l = z ∧ MeetL n xss i 0 L ∧ Own wr w2.heap.size 3 z L ∧ Below w2.heap.size w2 wr) (fun s _ _ => xss.length - (intOf s).toNat)
  case atStart => exact ⟨0, [], _, by omega, rfl, rfl, meetL_nil _ _, own_nil _ _ _, Below.refl _ _⟩
  case round =>
    obtain ⟨i, L, lv, hi, rfl, hz, hM, hO, hBw⟩ := hrel
    subst hz
    have HM := Lib.hid hM; have HO := Lib.hid hO; have HBw := Lib.hid hBw
    clear hM hO hBw
    by_cases hlt : i < xss.length
    · obtain ⟨g, gc, eg, hg, hcell⟩ := HO2.out.cell (i := i) (by rw [setsTo_len]; exact hlt)
      injection eg with eg1 eg2 eg3
      subst eg1
      rw [setsTo_get xss hlt] at hcell
      rw [← (bcell HBw.out).1 _ _ hg] at hcell
      have hS := setOf_lt (HDes.out.all i hlt)
      have hp40 : 2 ^ n ≤ 2 ^ 40 := Nat.pow_le_pow_right (by omega) (by omega)
      have hS40 : setOf (rx xss i) < 1099511627776 := by omega
      have hsl := fun W => run_front W (some ⟨g, 0, none⟩) xss.length sc i (by omega)
      have HG : Hid (∀ W, Below w2.heap.size w2 W → ∀ j, j < xss.length → W.cell? ⟨g, j, none⟩ = some (.int .u64 (setOf (rx xss j) : Nat))) := fun W hW j hj => by
        obtain ⟨g', gc', eg', hg', hcell'⟩ := HO2.out.cell (i := j) (by rw [setsTo_len]; exact hj)
        injection eg' with eg1'; injection eg1' with eg1'; injection eg1' with eg1'; subst eg1'
        rw [setsTo_get xss hj] at hcell'
        rw [(bcell hW).1 _ _ hg']; exact hcell'
      clear eg2 eg3 hS hp40
      go_wp2_with fail
      go_loopw [30, 5] (fun s l wr => ∃ (j : Nat) (L : List Int) (z : Value), j ≤ i ∧ s = .int .i64 j ∧ l = z ∧ MeetL n xss i j L ∧ Own wr w2.heap.size 3 z L ∧ Below w2.heap.size w2 wr) (fun s _ _ => i - (intOf s).toNat)
      case atStart => exact ⟨0, L, _, by omega, rfl, rfl, HM.out, HO.out, HBw.out⟩
      case round =>
        clear HM HO HBw hcell hsl
        obtain ⟨j, L2, lv2, hj, rfl, hz, hM, hO, hBw⟩ := hrel
        subst hz
        have HM := Lib.hid hM; have HO := Lib.hid hO; have HBw := Lib.hid hBw
        have hLl := hM.len
        have hsz := hBw.size
        clear hM hO hBw
        by_cases hji : j < i
        · have hcj := HG.out _ HBw.out j (by omega)
          have hS2 := setOf_lt (HDes.out.all j (by omega))
          have hp40 : 2 ^ n ≤ 2 ^ 40 := Nat.pow_le_pow_right (by omega) (by omega)
          have hS240 : setOf (rx xss j) < 1099511627776 := by omega
          have hand : Value.int .u64 (bits .and .u64 ((setOf (rx xss i) : Nat) : Int) ((setOf (rx xss j) : Nat) : Int)) = Value.int .u64 ((setOf (rx xss i) &&& setOf (rx xss j) : Nat) : Int) := by
            rw [u64_and_nat _ _ (by omega) (by omega)]
          have hle : setOf (rx xss i) &&& setOf (rx xss j) < 1099511627776 := Nat.lt_of_le_of_lt Nat.and_le_left hS40
          have HOn := Lib.hid (ones_any (setOf (rx xss i) &&& setOf (rx xss j)) hle wr)
          rw [tg_bits HDes.out (by omega) hlt (by omega)] at HOn
          have htg := tg_le n xss i j
          have HCt := Lib.hid (contains_any (tg n xss i j : Int) _ L2 wr (HO.out.intsAt (by omega)))
          have HMo : Hid (mem L2 (tg n xss i j : Int) = true → MeetL n xss i (j + 1) L2) := fun h => HM.out.old h
          have HMn : Hid (mem L2 (tg n xss i j : Int) = false → MeetL n xss i (j + 1) (L2 ++ [(tg n xss i j : Int)])) := fun h => HM.out.new h
          obtain ⟨la, ll, lc, rfl⟩ := HO.out.shape
          clear hS2 hp40 hS240 hle
          generalize tg n xss i j = q at *
          generalize setOf (rx xss i) &&& setOf (rx xss j) = Z at *
          generalize setOf (rx xss j) = S2 at *
          cases em : mem L2 (q : Int)
          · rw [em] at HCt
            have HMn2 := Lib.hid (HMn.out em)
            clear em HMo HMn
            go_wp2_with fail
            refine (HOn.out).mono ?_
            rintro e w' ⟨rfl, rfl⟩
            go_wp2_with fail
            refine (HCt.out).mono ?_
            rintro e w' ⟨rfl, rfl⟩
            go_wp2_with (at_builtin; refine app_own rfl _ _ rfl rfl (HO.out.alloc _) _ _ rfl (by rw [World.cell?_alloc_new]; rfl) (by omega) (by rw [World.size_alloc]; omega) ?_; intro v' w1 hown1 hgrow)
            have HO1 := Lib.hid hown1
            have HB1' := Lib.hid ((HBw.out.alloc hsz _).grown hgrow (by rw [World.size_alloc]; omega) (fun k hk => (HO.out.block k hk).1))
            clear hown1 hgrow
            go_roundw
            case rel => exact ⟨j + 1, _, _, by omega, by go_num, rfl, HMn2.out, HO1.out, HB1'.out⟩
            case measure => simp [intOf]; omega
          · rw [em] at HCt
            have HMo2 := Lib.hid (HMo.out em)
            clear em HMo HMn
            go_wp2_with fail
            refine (HOn.out).mono ?_
            rintro e w' ⟨rfl, rfl⟩
            go_wp2_with fail
            refine (HCt.out).mono ?_
            rintro e w' ⟨rfl, rfl⟩
            go_wp2_with fail
            go_roundw
            case rel => exact ⟨j + 1, _, _, by omega, by go_num, rfl, HMo2.out, HO.out, HBw.out⟩
            case measure => simp [intOf]; omega
        · obtain rfl : j = i := by omega
          go_wp2_with fail
          go_roundw
          case rel => exact ⟨j + 1, L2, _, by omega, by go_num, rfl, HM.out.row (by omega), HO.out, HBw.out⟩
          case measure => simp [intOf]; omega
    · obtain rfl : i = xss.length := by omega
      have hLl := HM.out.len
      have HS := Lib.hid (sort_own HO.out (by omega))
      have HF := Lib.hid HM.out.fin
      go_wp2_with fail
      refine (HS.out).mono ?_
      rintro e w' ⟨rfl, hown, hg⟩
      rw [HF.out] at hown
      have hsz := HBw.out.size
      have HB3 := Lib.hid (HBw.out.grown hg hsz (fun k hk => (HO.out.block k hk).1))
      have HB4 := Lib.hid (belowTrans HB2.out HB3.out)
      have HI := Lib.hid (hown.intsAt (by have := pickL_len (mto n xss xss.length) (n + 1); unfold meetsL; omega))
      clear hown hg
      go_wp2_with fail
      go_ret2
      exact ⟨_, rfl, HI.out, HB4.out⟩
end Go.Proofs.Ytkmcmahpfhlkhaa
