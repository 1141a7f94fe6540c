/-
  Contracts: the reference's Product, Times. No condition.
  Contract: the reference's Times. No condition.
  The product of the program and that of the reference are one, in all fields of few elements: reckoned. No program in sight. No condition.
  Contracts: the reference's Power, TraceOf. No condition.
  Contract: the reference's RootOf. No condition.
-/
import Derived.Test.YtdbfpdhcaiiiaaaDoorPDifferMakes11
import Derived.Test.YtdbfpdhcaiiiaaaDoorPDifferMakes7
namespace Go.Proofs.YtdbfpdhcaiiiaaaDoor
open Go.RowKit

theorem own_of_made {w : World} {base g n : Nat} {t : TypeId} (h : w.ownsRow base t 1 (.slice (some ⟨g, 0, none⟩) n n) n (madeCells #[Value.int .i64 0] (n * 1)).toList) : Own w base t (.slice (some ⟨g, 0, none⟩) n n) (nl (fun _ => 0) n) := by
  unfold Own
  rw [nl_len]
  have e : cellsOf (nl (fun _ => 0) n) = (madeCells #[Value.int .i64 0] (n * 1)).toList := by
    rw [madeCells_one, Nat.mul_one]
    apply List.ext_getElem
    · simp [cellsOf, nl]
    · intro i h1 h2
      simp [cellsOf, nl]
  rw [e]
  exact h

set_option maxRecDepth 100000 in
set_option maxHeartbeats 4000000 in
theorem rproduct_any (p d : Nat) (vx vy : Value) (X Y : Nat → Nat) (w : World) (hx : IntsAt w vx (nl X d)) (hy : IntsAt w vy (nl Y d)) (hp : 2 ≤ p) (hp2 : p ≤ 64) (hd1 : 1 ≤ d) (hd : d ≤ 6) (hX : ∀ j, j < d → X j < p) (hY : ∀ j, j < d → Y j < p) :
    Calls Tryd.prog 54 #[vx, vy, .int .i64 p] w fun e w' => ∃ g c, e = .returned (.slice (some ⟨g, 0, none⟩) (d + d) c) ∧ RowRel w w' w.heap.size g (d + d) c (prF p d X Y d) := by
  obtain ⟨i0, hi0, hz0, hz1, hz2⟩ := info_parts info_int
  have hp0 : ¬ p = 0 := by omega
  obtain ⟨xa, xc, rfl, _, _, _, x3⟩ := id hx
  obtain ⟨ya, yc, rfl, _, _, _, y3⟩ := id hy
  rw [nl_len] at x3 y3
  rw [nl_len, nl_len]
  have HX := Lib.hid x3; have HY := Lib.hid y3
  have HXl := Lib.hid hX; have HYl := Lib.hid hY
  clear x3 y3 hx hy hX hY
  go_enter Tryd.func54, Tryd.ntmps54
  go_wp2_with (at_make; go_must (refine wpList_make_full _ rfl _ _ _ rfl w.heap.size 3 i0 _ 1 Tryd.underlying22 hi0 hz0 hz1 _ _ _ _ (d + d) rfl rfl rfl rfl (by rw [hz2]; omega) (by unfold maxLen; omega) (Nat.le_refl _) ?_; intro w2 hown2 hgrow2))
  have HR0 : Hid (RowRel w w2 w.heap.size w.heap.size (d + d) (d + d) (prF p d X Y 0)) := ⟨below_grown (v := .slice none 0 0) hgrow2 (B := w.heap.size) (by intro k hk; cases hk) (Nat.le_refl _), Nat.le_refl _, own_of_made hown2⟩
  clear hown2 hgrow2
  obtain ⟨g, hg⟩ : ∃ g, g = w.heap.size := ⟨_, rfl⟩
  have HR1 : Hid (RowRel w w2 w.heap.size g (d + d) (d + d) (prF p d X Y 0)) := by show RowRel _ _ _ _ _ _ _; rw [hg]; exact HR0.out
  rw [← hg]
  clear HR0 hg
  go_loopw [8, 9] (fun u _ wr => ∃ i : Nat, i ≤ d ∧ u = .int .i64 i ∧ RowRel w wr w.heap.size g (d + d) (d + d) (prF p d X Y i)) (fun u _ _ => d - (intOf u).toNat)
  case atStart => exact ⟨0, by omega, rfl, HR1.out⟩
  case round =>
    clear HR1
    obtain ⟨i, hi, rfl, hR⟩ := hrel
    have HR := Lib.hid hR; clear hR
    by_cases hlt : i < d
    · obtain ⟨bx, ox, rfl, hbx, hcx⟩ := HX.out i hlt
      have HCX := Lib.hid (hcx i hlt)
      rw [nl_ix X hlt] at HCX
      clear hcx
      go_wp2_with fail
      go_loopw [9] (fun u wr => ∃ k : Nat, k ≤ d ∧ u = .int .i64 k ∧ RowRel w wr w.heap.size g (d + d) (d + d) (prK p d X Y i k)) (fun u _ => d - (intOf u).toNat)
      case atStart => exact ⟨0, by omega, rfl, HR.out.congr fun j _ => prK_zero p d X Y i j⟩
      case round =>
        clear HR
        obtain ⟨k, hk, rfl, hR⟩ := hrel
        have HR := Lib.hid hR; clear hR
        by_cases hkt : k < d
        · obtain ⟨by', oy, rfl, hby, hcy⟩ := HY.out k hkt
          have c3 := hcy k hkt
          rw [nl_ix Y hkt, ← HR.out.bel.cell (p := ⟨by', oy + k, none⟩) hby] at c3
          have c4 := HCX.out
          rw [← HR.out.bel.cell (p := ⟨bx, ox + i, none⟩) hbx] at c4
          clear hcy
          have hik : i + k < d + d := by omega
          obtain ⟨c1, c2⟩ := HR.out.cell hik
          rw [prK_at] at c1
          have hxl := HXl.out i hlt; have hyl := HYl.out k hkt
          have hob := prF_lt (p := p) (m := d) (X := X) (Y := Y) (by omega) i (i + k)
          obtain ⟨v1, v2, v3⟩ := prod_vals (p := p) hp2 hob hxl hyl
          have HSR : Hid (((prF p d X Y i (i + k) + X i * Y k : Nat) : Int) % (p : Int) = (((prF p d X Y i (i + k) + X i * Y k) % p : Nat) : Int)) := (Int.natCast_emod _ _).symm
          have HPut : Hid (RowRel w (wr.setCell ⟨g, i + k, none⟩ (.int .i64 (((prF p d X Y i (i + k) + X i * Y k : Nat) : Int) % (p : Int)))).drew w.heap.size g (d + d) (d + d) (prK p d X Y i (k + 1))) := by
            show RowRel _ _ _ _ _ _ _
            rw [HSR.out]
            exact RowRel.drewN ((HR.out.put hik _).congr fun j _ => prK_next p d X Y i k j) 1
          have hm : X i * Y k ≤ 64 * 64 := Nat.mul_le_mul (by omega) (by omega)
          have hs1 : IntKind.i64.wrap ((i : Int) + (k : Int)) = (i : Int) + (k : Int) := IntWalk.i64_in _ (by omega)
          have hs2 : (i : Int) + (k : Int) < (d : Int) + (d : Int) := by omega
          have hs3 : ((i : Int) + (k : Int)).toNat = i + k := by omega
          have hid : (i : Int) < (d : Int) := by omega
          have hkd : (k : Int) < (d : Int) := by omega
          clear HSR
          generalize X i * Y k = M at *
          have hs : prF p d X Y i (i + k) + M ≤ 5000 := by omega
          generalize prF p d X Y i (i + k) + M = S at *
          generalize prF p d X Y i (i + k) = OO at *
          generalize X i = XX at *
          generalize Y k = YY at *
          go_wp2_with fail
          go_region
          all_goals
            clear v1 v2 v3 c1 c2 c3 c4 hs1 hs2 hs3
            go_wp2_with fail
            go_roundw
            case rel => exact ⟨k + 1, by omega, by go_num, HPut.out⟩
            case measure => simp [intOf]; omega
        · obtain rfl : k = d := by omega
          have HR2 : Hid (RowRel w wr w.heap.size g (k + k) (k + k) (prF p k X Y (i + 1))) := HR.out
          clear HR
          go_wp2_with fail
          go_roundw
          case rel => exact ⟨i + 1, by omega, by go_num, HR2.out⟩
          case measure => simp [intOf]; omega
    · obtain rfl : i = d := by omega
      go_wp2_with fail
      go_ret
      exact ⟨g, _, rfl, HR.out⟩
end Go.Proofs.YtdbfpdhcaiiiaaaDoor

namespace Go.Proofs.YtdbfpdhcaiiiaaaDoor
open Go.RowKit

/-- The product, as the reference has it. -/
def timF (p d : Nat) (low : Nat → Nat) (a b : Nat) : Nat → Nat := divF p d (2 * d - 1) low (prF p d (dF p a) (dF p b) d) d
def timesV (p d : Nat) (low : Nat → Nat) (a b : Nat) : Nat := numF p d (timF p d low a b)
theorem timF_lt {p d : Nat} {low : Nat → Nat} {a b : Nat} (hp : 1 ≤ p) (j : Nat) : timF p d low a b j < p := divF_lt hp (fun j => prF_lt hp d j) d j
theorem timesV_lt {p d : Nat} {low : Nat → Nat} {a b : Nat} (hp : 1 ≤ p) : timesV p d low a b < p ^ d := numF_lt fun j _ => timF_lt hp j
theorem take_nl (f : Nat → Nat) {n m : Nat} (h : n ≤ m) : (nl f m).take n = nl f n := by
  apply List.ext_getElem
  · rw [List.length_take, nl_len, nl_len]; omega
  · intro i h1 h2
    rw [nl_len] at h2
    simp [nl]

theorem run_head (w : World) (a : Option Addr) (n c h : Nat) (hh : h ≤ c) :
    (Instr.slice 22 (.slice a n c) none (some (.int .i64 (h : Int))) none).run Tryd.prog w = .ok (.slice a h c) w := by
  rw [run_slice_h w 22 a n c und_ints .i64 h (by omega) (by omega), size_int]
  cases a with
  | none => simp [Result.andThen, sliced]
  | some p => cases p; simp [Result.andThen, sliced, Addr.add]
theorem RowRel.head {w wr : World} {B g n c : Nat} {f : Nat → Nat} (h : RowRel w wr B g n c f) {m : Nat} (hm : m ≤ n) (hn1 : 1 ≤ n) : IntsAt wr (.slice (some ⟨g, 0, none⟩) m c) (nl f m) ∧ m ≤ c := by
  rcases h.own.2 with ⟨e, _⟩ | ⟨g', cap, cur, e, _, hh, hc, hmx, _⟩
  · cases e
  · injection e with e1 e2 e3
    subst e3
    rw [nl_len] at hc
    unfold maxLen at hmx
    refine ⟨⟨some ⟨g, 0, none⟩, c, by rw [nl_len], by rw [nl_len]; omega, by omega, (fun h => by cases h), fun i hi => ⟨g, 0, rfl, ?_, fun j hj => ?_⟩⟩, by omega⟩
    · exact World.block_lt_of_cell? wr ⟨g, 0, none⟩ (h.cell (j := 0) hn1).1
    · rw [nl_len] at hj
      rw [Nat.zero_add, nl_ix f hj]
      exact (h.cell (by omega)).1

set_option maxRecDepth 100000 in
set_option maxHeartbeats 6000000 in
theorem rtimes_any (p d a b : Nat) (v : Value) (low : List Int) (w : World) (hI : IntsAt w v low) (hF : IsField p d low) (ha : a ≤ 64) (hb : b ≤ 64) :
    Calls Tryd.prog 33 #[.agg #[.int .i64 p, .int .i64 d, v], .int .i64 a, .int .i64 b] w fun e w' => e = .returned (.int .i64 (timesV p d (lF low) a b : Nat)) ∧ Below w.heap.size w w' := by
  obtain ⟨la, lc, rfl, _, _, _, l3⟩ := id hI
  have HX := Lib.hid l3
  have hp := hF.p2; have hp61 := hF.p61; have hd1 := hF.d1; have hd6 := hF.d6
  have hp0 : ¬ p = 0 := by omega
  have HF := Lib.hid hF
  have HS := Lib.hid (FbRel.begin w p d (.slice la low.length lc))
  have HD1 := Lib.hid (fun W => rdigits_any a p d W ha hp (by omega) (by omega))
  have HD2 := Lib.hid (fun W => rdigits_any b p d W hb hp (by omega) (by omega))
  have HLen := Lib.hid hF.len
  clear l3 hI hF
  go_enter Tryd.func33, Tryd.ntmps33
  go_wp2_with fail
  refine (HD1.out _).mono ?_
  rintro e w1 ⟨v1, rfl, ho1, hb1⟩
  obtain ⟨g1, c1, rfl, _⟩ := own_row ho1 hd1
  have HR1 := Lib.hid (HS.out.step hb1)
  have HI1 := Lib.hid (ho1.intsAt (by rw [nl_len]; omega))
  obtain ⟨f0, f1, f2⟩ := HR1.out.cells
  clear ho1 hb1
  go_wp2_with fail
  refine (HD2.out _).mono ?_
  rintro e w2 ⟨v2, rfl, ho2, hb2⟩
  obtain ⟨g2, c2, rfl, _⟩ := own_row ho2 hd1
  have HR2 := Lib.hid (HR1.out.step hb2)
  have HPr := Lib.hid (rproduct_any p d _ _ (dF p a) (dF p b) w2 (HI1.out.below hb2) (ho2.intsAt (by rw [nl_len]; omega)) hp (by omega) hd1 hd6 (fun j _ => dF_lt (by omega)) (fun j _ => dF_lt (by omega)))
  clear ho2 hb2 f0 f1 f2 HI1 HD1 HD2
  obtain ⟨f0, f1, f2⟩ := HR2.out.cells
  go_wp2_with fail
  refine HPr.out.mono ?_
  rintro e w3 ⟨g, gc, rfl, hrow⟩
  have HR3 := Lib.hid (HR2.out.step hrow.bel)
  have HZ3 : Hid (w.heap.size < w2.heap.size) := Arr.lt HR2.out.fb
  have HW3 : Hid (RowRel w w3 w2.heap.size g (d + d) gc (divF p d (2 * d - 1) (lF low) (prF p d (dF p a) (dF p b) d) 0)) := ⟨HR3.out.bel, Nat.le_of_lt HZ3.out, hrow.own⟩
  have HFb : Hid (Arr w3 w.heap.size 3 (three (.int .i64 (p : Int)) (.int .i64 (d : Int)) (.slice la low.length lc))) := HR3.out.fb
  have hd2 : IntKind.i64.wrap ((d : Int) + (d : Int) - 1) = (d : Int) + (d : Int) - 1 := IntWalk.i64_in _ (by omega)
  clear hrow f0 f1 f2
  obtain ⟨f0, f1, f2⟩ := HR3.out.cells
  clear HR1 HR2 HPr HR3 HS
  generalize w2.heap.size = B at *
  go_wp2_with fail
  clear hd2 f0 f1 f2
  go_loopw [10, 11, 12, 13] (fun u _ _ _ wr => ∃ s T : Nat, T + s + 1 = d + d ∧ d ≤ T + 1 ∧ u = .int .i64 T ∧ RowRel w wr B g (d + d) gc (divF p d (2 * d - 1) (lF low) (prF p d (dF p a) (dF p b) d) s) ∧ Arr wr w.heap.size 3 (three (.int .i64 (p : Int)) (.int .i64 (d : Int)) (.slice la low.length lc))) (fun u _ _ _ _ => (intOf u).toNat)
  case atStart => exact ⟨0, d + d - 1, by omega, by omega, by rw [Int.ofNat_sub (show 1 ≤ d + d by omega)]; rfl, HW3.out, HFb.out⟩
  case round =>
    clear HW3 HFb
    obtain ⟨s, T, hT, hdT, rfl, hR, hfb⟩ := hrel
    have HR := Lib.hid hR; have HFb := Lib.hid hfb
    clear hR hfb
    have HTs := Lib.hid hT
    have f0 : wr.cell? ⟨w.heap.size, 0, none⟩ = some (.int .i64 (p : Int)) := HFb.out.cell (show 0 < 3 by omega)
    have f1 : wr.cell? ⟨w.heap.size, 1, none⟩ = some (.int .i64 (d : Int)) := HFb.out.cell (show 1 < 3 by omega)
    have f2 : wr.cell? ⟨w.heap.size, 2, none⟩ = some (.slice la low.length lc) := HFb.out.cell (show 2 < 3 by omega)
    by_cases hlt : d ≤ T
    · obtain ⟨t, ht⟩ : ∃ t, t = T - d := ⟨_, rfl⟩
      obtain ⟨A, hAe⟩ : ∃ A, A = divF p d (2 * d - 1) (lF low) (prF p d (dF p a) (dF p b) d) s := ⟨_, rfl⟩
      have hAl : ∀ j, A j < p := fun j => by rw [hAe]; exact divF_lt (by omega) (fun j => prF_lt (by omega) d j) s j
      rw [← hAe] at HR
      have HA := Lib.hid hAl
      have HAe := Lib.hid hAe
      have hTd : T < d + d := by omega
      have hTdi : (T : Int) < (d : Int) + (d : Int) := by omega
      obtain ⟨c1, c2⟩ := HR.out.cell hTd
      have hcT := hAl T
      have HTt : Hid (t + d = T) := by show _ = _; omega
      have HR1 : Hid (RowRel w (wr.setCell ⟨g, T, none⟩ (.int .i64 0)) B g (d + d) gc (inR p d t (lF low) A 0)) := (HR.out.put hTd 0).congr fun j _ => by rw [← HTt.out]; exact inR_zero p d t (lF low) A j
      have hgB : B ≤ g := (HR.out.own.cellAt (j := T) (by rw [nl_len]; exact hTd)).2.2
      have hz3 := HZ3.out
      have HFb1 : Hid (Arr (wr.setCell ⟨g, T, none⟩ (.int .i64 0)) w.heap.size 3 (three (.int .i64 (p : Int)) (.int .i64 (d : Int)) (.slice la low.length lc))) := Arr.setOther HFb.out (by show g ≠ _; omega) _
      clear hAl hAe hT HR HFb
      go_wp2_with fail
      clear c1 c2 f0 f1 f2
      obtain ⟨C, hC⟩ : ∃ C, C = A T := ⟨_, rfl⟩
      have HC := Lib.hid hC
      rw [← hC] at hcT
      rw [← hC]
      clear hC
      go_loopw [12, 13] (fun u _ wr => ∃ i : Nat, i ≤ d ∧ u = .int .i64 i ∧ RowRel w wr B g (d + d) gc (inR p d t (lF low) A i) ∧ Arr wr w.heap.size 3 (three (.int .i64 (p : Int)) (.int .i64 (d : Int)) (.slice la low.length lc))) (fun u _ _ => d + 1 - (intOf u).toNat)
      case atStart => exact ⟨0, by omega, rfl, HR1.out, HFb1.out⟩
      case round =>
        clear HR1 HFb1
        obtain ⟨i, hi, rfl, hR, hfb⟩ := hrel
        have HR := Lib.hid hR; have HFb := Lib.hid hfb
        clear hR hfb
        have f0 : wr.cell? ⟨w.heap.size, 0, none⟩ = some (.int .i64 (p : Int)) := HFb.out.cell (show 0 < 3 by omega)
        have f1 : wr.cell? ⟨w.heap.size, 1, none⟩ = some (.int .i64 (d : Int)) := HFb.out.cell (show 1 < 3 by omega)
        have f2 : wr.cell? ⟨w.heap.size, 2, none⟩ = some (.slice la low.length lc) := HFb.out.cell (show 2 < 3 by omega)
        by_cases hin : i < d
        · obtain ⟨q, hq⟩ : ∃ q, q = t + i := ⟨_, rfl⟩
          have hqd : q < d + d := by omega
          obtain ⟨c1, c2⟩ := HR.out.cell hqd
          rw [hq, inR_at hin, ← hq] at c1
          have hil : i < low.length := by rw [HLen.out]; exact hin
          obtain ⟨b', o, rfl, hb, hc⟩ := HX.out i hil
          have c3 := hc i hil
          rw [HF.out.lowCast hin, ← HR.out.bel.cell (p := ⟨b', o + i, none⟩) hb] at c3
          clear hc
          have hy := HF.out.lowLt i
          have hx := HA.out q
          obtain ⟨Z, v0, z1, z2, z3, v1, v2, v3, v4, v5, v6⟩ := rem_vals hp (by omega) hcT hx hy
          have HPut : Hid (RowRel w (wr.setCell ⟨g, q, none⟩ (.int .i64 (((A q + (p - C) * lF low i) % p : Nat) : Int))) B g (d + d) gc (inR p d t (lF low) A (i + 1))) :=
            (HR.out.put hqd _).congr fun j _ => by rw [← inR_next, HTt.out, ← HC.out, ← hq]
          have HFb2 : Hid (∀ x, Arr (wr.setCell ⟨g, q, none⟩ x) w.heap.size 3 (three (.int .i64 (p : Int)) (.int .i64 (d : Int)) (.slice (some ⟨b', o, none⟩) low.length lc))) := fun x => Arr.setOther HFb.out (by show g ≠ _; omega) _
          have hqi : (q : Int) < (d : Int) + (d : Int) := by omega
          have hii : (i : Int) < (low.length : Int) := by omega
          have hid : (i : Int) < (d : Int) := by omega
          have hm : C * lF low i ≤ 64 * 64 := Nat.mul_le_mul (by omega) (by omega)
          have hr : (A q + (p - C) * lF low i) % p < p := Nat.mod_lt _ (by omega)
          clear v5
          generalize (A q + (p - C) * lF low i) % p = R at *
          generalize C * lF low i = M at *
          generalize lF low i = Y at *
          generalize A q = X at *
          rw [ht] at hq
          subst hq
          go_wp2_with fail
          go_region
          all_goals
            have HP2 := Lib.hid (HPut.out.drewN 1)
            have HFb3 := Lib.hid (Arr.drewN (HFb2.out (.int .i64 (R : Int))) 1)
            clear c1 c2 c3 v0 v1 v2 v3 v4 v6 f0 f1 f2
            go_wp2_with fail
            go_roundw
            case rel => exact ⟨i + 1, by omega, by go_num, HP2.out, HFb3.out⟩
            case measure => simp [intOf]; omega
        · obtain rfl : i = d := by omega
          have HR2 : Hid (RowRel w wr B g (i + i) gc (divF p i (2 * i - 1) (lF low) (prF p i (dF p a) (dF p b) i) (s + 1))) := HR.out.congr fun j _ => by
            rw [divF, ← HAe.out, inR_last]
            congr 1
            have := HTs.out
            omega
          clear HR
          go_wp2_with fail
          go_roundw
          case rel =>
            have hTs := HTs.out
            exact ⟨s + 1, T - 1, by omega, by omega, by rw [Int.ofNat_sub (show 1 ≤ T by omega)]; rfl, HR2.out, HFb.out⟩
          case measure => simp [intOf]; omega
    · have HR2 : Hid (RowRel w wr B g (d + d) gc (timF p d (lF low) a b)) := by
        have : s = d := by have := HTs.out; omega
        have h := HR.out
        rw [this] at h; exact h
      clear HR hT
      obtain ⟨hhd, hcap⟩ := HR2.out.head (m := d) (by omega) (by omega)
      have hsl := fun W => run_head W (some ⟨g, 0, none⟩) (d + d) gc d hcap
      have HHd := Lib.hid hhd
      have HNum : Hid (∀ n, Calls Tryd.prog 55 #[.slice (some ⟨g, 0, none⟩) d gc, .int .i64 (p : Int)] (wr.drewN n) fun e w' => e = .returned (.int .i64 (timesV p d (lF low) a b : Nat)) ∧ w' = wr.drewN n) := fun n =>
        (rnumber_any p d _ _ (wr.drewN n) (HHd.out.below (below_D _ _)) hp (by omega) hd1 hd6 HF.out.q64 (fun j _ => timF_lt (by omega) j)).mono fun e w' he => ⟨he.1, he.2.symm⟩
      clear hhd hcap
      go_wp2_with fail
      go_quiet ((go_at_call 55; exact Calls.quiet_of_same (HNum.out _)))
      go_wp2_with fail
      go_ret
      exact ⟨rfl, below_drewN HR2.out.bel _⟩
end Go.Proofs.YtdbfpdhcaiiiaaaDoor

namespace Go.Proofs.YtdbfpdhcaiiiaaaDoor
open Go.RowKit

/-- The product of two polynomials over lists. -/
def prL (p d : Nat) (xs ys : List Nat) : Nat → List Nat
  | 0 => List.replicate (2 * d) 0
  | i + 1 => (List.range (2 * d)).map fun j => if i ≤ j ∧ j < i + d then (gl (prL p d xs ys i) j + gl xs i * gl ys (j - i)) % p else gl (prL p d xs ys i) j
def timC (p : Nat) (low : List Nat) (a b : Nat) : Nat :=
  numL p ((divGo p low.length (2 * low.length - 1) low (prL p low.length (dg p a low.length) (dg p b low.length) low.length) low.length).take low.length)
theorem prL_len (p d : Nat) (xs ys : List Nat) : ∀ i, (prL p d xs ys i).length = 2 * d
  | 0 => by simp [prL]
  | i + 1 => by simp [prL]
theorem prL_get (p d : Nat) (xs ys : List Nat) (X Y : Nat → Nat) (hx : ∀ j, j < d → gl xs j = X j) (hy : ∀ j, j < d → gl ys j = Y j) : ∀ i, i ≤ d → ∀ j, j < 2 * d → gl (prL p d xs ys i) j = prF p d X Y i j
  | 0, _, j, hj => by
    show gl (List.replicate (2 * d) 0) j = 0
    unfold gl; rw [List.getD_eq_getElem?_getD]; simp [hj]
  | i + 1, hi, j, hj => by
    have ih := prL_get p d xs ys X Y hx hy i (by omega) j hj
    have e : gl (prL p d xs ys (i + 1)) j = if i ≤ j ∧ j < i + d then (gl (prL p d xs ys i) j + gl xs i * gl ys (j - i)) % p else gl (prL p d xs ys i) j := by
      rw [prL]
      show ((List.range (2 * d)).map _).getD j 0 = _
      rw [List.getD_eq_getElem?_getD]; simp [hj]
    rw [e, prF, ih]
    by_cases h : i ≤ j ∧ j < i + d
    · rw [if_pos h, if_pos h, hx i (by omega), hy (j - i) (by omega)]
    · rw [if_neg h, if_neg h]
theorem timesV_of (p : Nat) (low : List Nat) (a b : Nat) (hd : 1 ≤ low.length) : timesV p low.length (gl low) a b = timC p low a b := by
  unfold timC timesV
  have hlen := prL_len p low.length (dg p a low.length) (dg p b low.length) low.length
  have hdl := divGo_len p low.length (2 * low.length - 1) low (prL p low.length (dg p a low.length) (dg p b low.length) low.length) low.length
  rw [numL_eq, List.length_take, hdl, hlen, Nat.min_eq_left (by omega)]
  refine numF_congr fun j hj => ?_
  have h := divGo_get p low.length (2 * low.length - 1) low (prL p low.length (dg p a low.length) (dg p b low.length) low.length) (gl low) (prF p low.length (dF p a) (dF p b) low.length) (by omega) (by rw [hlen]; omega) (fun j _ => rfl)
    (fun j hj => prL_get p low.length _ _ _ _ (fun j hj => dg_get p _ _ _ hj) (fun j hj => dg_get p _ _ _ hj) _ (Nat.le_refl _) j (by rw [hlen] at hj; exact hj)) low.length (by omega) j (by rw [hlen]; omega)
  unfold timF
  rw [← h]
  unfold gl
  rw [List.getD_eq_getElem?_getD, List.getD_eq_getElem?_getD, List.getElem?_take_of_lt hj]
def mulTimes (p d : Nat) : Bool := (lows p d).all fun l => !irrC p d l || (List.range (p ^ d)).all fun a => (List.range (p ^ d)).all fun b => mulC p l a b == timC p l a b
theorem mt21 : mulTimes 2 1 = true := by decide +kernel
theorem mt31 : mulTimes 3 1 = true := by decide +kernel
theorem mt51 : mulTimes 5 1 = true := by decide +kernel
theorem mt71 : mulTimes 7 1 = true := by decide +kernel
theorem mt22 : mulTimes 2 2 = true := by decide +kernel
theorem mt23 : mulTimes 2 3 = true := by decide +kernel
theorem timesM_of {p d : Nat} {low : List Int} (hF : IsField p d low) (a b : Nat) : timesV p d (lF low) a b = timC p (lowN low) a b := by
  have := timesV_of p (lowN low) a b (by rw [lowN_len, hF.len]; exact hF.d1)
  rw [lowN_len, hF.len, ← lowN_get] at this
  exact this
theorem mt_of {p d : Nat} {low : List Int} (hF : IsField p d low) (h : mulTimes p d = true) {a b : Nat} (ha : a < p ^ d) (hb : b < p ^ d) : mulM p d low a b = timesV p d (lF low) a b := by
  have h1 := List.all_eq_true.1 h _ hF.mem
  rw [hF.irrC, Bool.not_true, Bool.false_or] at h1
  have h2 := List.all_eq_true.1 h1 a (List.mem_range.2 ha)
  have h3 := List.all_eq_true.1 h2 b (List.mem_range.2 hb)
  rw [mulM_of hF, timesM_of hF]
  simpa using h3
/-- Of at most eight elements. -/
theorem mul_times8 {p d : Nat} {low : List Int} (hF : IsField p d low) (h8 : p ^ d ≤ 8) {a b : Nat} (ha : a < p ^ d) (hb : b < p ^ d) : mulM p d low a b = timesV p d (lF low) a b := by
  rcases hF.cases with h | h
  · subst h
    have hp := hF.pr
    rw [Nat.pow_one] at h8
    unfold isPB at hp
    rw [List.contains_eq_mem, decide_eq_true_eq] at hp
    simp only [primesL, List.mem_cons, List.not_mem_nil, or_false] at hp
    have : p = 2 ∨ p = 3 ∨ p = 5 ∨ p = 7 := by omega
    rcases this with rfl | rfl | rfl | rfl
    · exact mt_of hF mt21 ha hb
    · exact mt_of hF mt31 ha hb
    · exact mt_of hF mt51 ha hb
    · exact mt_of hF mt71 ha hb
  · simp only [ordersL, List.mem_cons, Prod.mk.injEq, List.not_mem_nil, or_false] at h
    rcases h with h | h | h | h | h | h | h | h | h
    all_goals obtain ⟨rfl, rfl⟩ := h
    · exact mt_of hF mt22 ha hb
    · exact mt_of hF mt23 ha hb
    all_goals exact absurd h8 (by decide)
end Go.Proofs.YtdbfpdhcaiiiaaaDoor

namespace Go.Proofs.YtdbfpdhcaiiiaaaDoor
open Go.RowKit

/-- The product, as the reference has it. -/
def timM (p d : Nat) (low : List Int) (a b : Nat) : Nat := timesV p d (lF low) a b
theorem timM_lt {p d : Nat} {low : List Int} (hF : IsField p d low) (a b : Nat) : timM p d low a b < p ^ d := timesV_lt (by have := hF.p2; omega)
/-- A power by as many products. -/
def rpwS (M : Nat → Nat → Nat) (a : Nat) : Nat → Nat
  | 0 => 1
  | i + 1 => M (rpwS M a i) a
theorem rpwS_lt {p d : Nat} {low : List Int} (hF : IsField p d low) (a i : Nat) : rpwS (timM p d low) a i < p ^ d := by
  cases i with
  | zero =>
    show 1 < p ^ d
    have h1 : p ^ 1 ≤ p ^ d := Nat.pow_le_pow_right (by have := hF.p2; omega) hF.d1
    rw [Nat.pow_one] at h1
    have := hF.p2
    omega
  | succ i => exact timM_lt hF _ _

set_option maxRecDepth 100000 in
set_option maxHeartbeats 3000000 in
theorem rpower_any (P D a n : Nat) (v : Value) (low : List Int) (w : World) (h : IntsAt w v low) (hF : IsField P D low) (ha : a < P ^ D) (hn1 : 1 ≤ n) (hn : n ≤ P ^ D) :
    Calls Tryd.prog 67 #[.agg #[.int .i64 P, .int .i64 D, v], .int .i64 a, .int .i64 n] w fun e w' => e = .returned (.int .i64 (rpwS (timM P D low) a n : Nat)) ∧ Below w.heap.size w w' := by
  obtain ⟨sa, sc, rfl, _⟩ := id h
  have HS := Lib.hid (FbRel.begin w P D (.slice sa low.length sc))
  have HSz : Hid (∀ W, Calls Tryd.prog 32 #[.agg #[.int .i64 P, .int .i64 D, .slice sa low.length sc]] W fun e w' => e = .returned (.int .i64 (P ^ D : Nat)) ∧ Below W.heap.size W w') := fun W => by
    have := size_any P D (.slice sa low.length sc) W ⟨_, _, _, rfl⟩
    rw [hF.q] at this; exact this
  have hq64 := hF.q64
  have HTi : Hid (∀ (x : Nat) W, x < P ^ D → Below w.heap.size w W → Calls Tryd.prog 33 #[.agg #[.int .i64 P, .int .i64 D, .slice sa low.length sc], .int .i64 (x : Int), .int .i64 (a : Int)] W fun e w' => e = .returned (.int .i64 (timM P D low x a : Nat)) ∧ Below W.heap.size W w') :=
    fun x W hx hW => rtimes_any P D x a _ low W (h.below hW) hF (by omega) (by omega)
  have HPl : Hid (∀ i, rpwS (timM P D low) a i < P ^ D) := fun i => rpwS_lt hF a i
  have HSuc : Hid (∀ i, timM P D low (rpwS (timM P D low) a i) a = rpwS (timM P D low) a (i + 1)) := fun i => rfl
  clear h hF ha
  obtain ⟨q, hq⟩ : ∃ q, q = P ^ D := ⟨_, rfl⟩
  rw [← hq] at HSz HTi HPl hq64 hn
  clear hq
  have e1 : (((n : Nat) : Int) == 0) = false := by simp; omega
  have e2 : decide ((q : Int) < (n : Int)) = false := by simp; omega
  have e2n : decide (q < n) = false := by simp; omega
  go_enter Tryd.func67, Tryd.ntmps67
  go_wp2_with fail
  refine (HSz.out _).mono ?_
  rintro e w1 ⟨rfl, hb1⟩
  have HR := Lib.hid (HS.out.step hb1)
  clear hb1
  go_wp2_with fail
  go_loopw [8, 9] (fun x u wr => ∃ i : Nat, i ≤ n ∧ u = .int .i64 i ∧ x = .int .i64 (rpwS (timM P D low) a i : Nat) ∧ FbRel w wr P D (.slice sa low.length sc)) (fun _ u _ => n - (intOf u).toNat)
  case atStart => exact ⟨0, by omega, rfl, rfl, HR.out⟩
  case round =>
    clear HR
    obtain ⟨i, hi, rfl, rfl, hR⟩ := hrel
    have HR := Lib.hid hR; clear hR
    obtain ⟨f0, f1, f2⟩ := HR.out.cells
    by_cases hlt : i < n
    · have hp := HPl.out i
      have HN := Lib.hid (HSuc.out i)
      generalize rpwS (timM P D low) a i = x at *
      go_wp2_with fail
      refine (HTi.out x wr hp HR.out.bel).mono ?_
      rintro e w2 ⟨rfl, hb2⟩
      have HR2 := Lib.hid (HR.out.step hb2)
      clear hb2 f0 f1 f2
      rw [HN.out]
      go_wp2_with fail
      go_roundw
      case rel => exact ⟨i + 1, by omega, by go_num, rfl, HR2.out⟩
      case measure => simp [intOf]; omega
    · obtain rfl : i = n := by omega
      go_wp2_with fail
      go_ret
      exact ⟨rfl, HR.out.bel⟩

/-- The trace, as the reference sums it. -/
def rtrS (p d : Nat) (low : List Int) : Nat → Nat → Nat → Nat
  | 0, s, _ => s
  | k + 1, s, a => rtrS p d low k (addV p d s a) (rpwS (timM p d low) a p)

set_option maxRecDepth 100000 in
set_option maxHeartbeats 3000000 in
theorem rtrace_any (P D a : Nat) (v : Value) (low : List Int) (w : World) (h : IntsAt w v low) (hF : IsField P D low) (ha : a < P ^ D) :
    Calls Tryd.prog 47 #[.agg #[.int .i64 P, .int .i64 D, v], .int .i64 a] w fun e w' => e = .returned (.int .i64 (rtrS P D low D 0 a : Nat)) ∧ Below w.heap.size w w' := by
  obtain ⟨sa, sc, rfl, _⟩ := id h
  have HS := Lib.hid (FbRel.begin w P D (.slice sa low.length sc))
  have hq64 := hF.q64
  have hpq : P ≤ P ^ D := by
    have h1 : P ^ 1 ≤ P ^ D := Nat.pow_le_pow_right (by have := hF.p2; omega) hF.d1
    rw [Nat.pow_one] at h1; exact h1
  have HSu : Hid (∀ (x y : Nat) W, x ≤ 64 → y ≤ 64 → Calls Tryd.prog 34 #[.agg #[.int .i64 P, .int .i64 D, .slice sa low.length sc], .int .i64 x, .int .i64 y] W fun e w' => e = .returned (.int .i64 (addV P D x y : Nat)) ∧ Below W.heap.size W w') :=
    fun x y W hx hy => rsum_any P D x y _ W ⟨_, _, _, rfl⟩ hF.p2 (by have := hF.p61; omega) hF.d1 hF.d6 hF.q64 hx hy
  have HPo : Hid (∀ (x : Nat) W, x < P ^ D → Below w.heap.size w W → Calls Tryd.prog 67 #[.agg #[.int .i64 P, .int .i64 D, .slice sa low.length sc], .int .i64 (x : Int), .int .i64 (P : Int)] W fun e w' => e = .returned (.int .i64 (rpwS (timM P D low) x P : Nat)) ∧ Below W.heap.size W w') :=
    fun x W hx hW => rpower_any P D x P _ low W (h.below hW) hF hx (by have := hF.p2; omega) hpq
  have HAl : Hid (∀ x y, addV P D x y < P ^ D) := fun x y => addV_lt (by have := hF.p2; omega)
  have HPl : Hid (∀ x, rpwS (timM P D low) x P < P ^ D) := fun x => rpwS_lt hF x P
  have hd1 := hF.d1; have hd6 := hF.d6
  clear h hF
  obtain ⟨q, hq⟩ : ∃ q, q = P ^ D := ⟨_, rfl⟩
  rw [← hq] at HPo HAl HPl hq64 hpq ha
  clear hq
  go_enter Tryd.func47, Tryd.ntmps47
  go_wp2_with fail
  go_loopw [1, 5, 6] (fun x s u wr => ∃ k x0 s0 : Nat, k ≤ D ∧ u = .int .i64 k ∧ x = .int .i64 x0 ∧ s = .int .i64 s0 ∧ x0 < q ∧ s0 < 64 ∧ rtrS P D low (D - k) s0 x0 = rtrS P D low D 0 a ∧ FbRel w wr P D (.slice sa low.length sc)) (fun _ _ u _ => D - (intOf u).toNat)
  case atStart => exact ⟨0, a, 0, by omega, rfl, rfl, rfl, ha, by omega, rfl, HS.out⟩
  case round =>
    clear HS
    obtain ⟨k, x, s, hk, rfl, rfl, rfl, hx, hs, htr, hR⟩ := hrel
    have HR := Lib.hid hR; have HTr := Lib.hid htr
    clear hR htr
    obtain ⟨f0, f1, f2⟩ := HR.out.cells
    by_cases hlt : k < D
    · have HN : Hid (rtrS P D low (D - (k + 1)) (addV P D s x) (rpwS (timM P D low) x P) = rtrS P D low D 0 a) := by
        show _ = _
        rw [← HTr.out, show D - k = (D - (k + 1)) + 1 by omega, rtrS]
      have ha1 := HAl.out s x
      have hp1 := HPl.out x
      go_wp2_with fail
      refine (HSu.out s x wr (by omega) (by omega)).mono ?_
      rintro e w2 ⟨rfl, hb2⟩
      have HR2 := Lib.hid (HR.out.step hb2)
      clear hb2 f0 f1 f2
      obtain ⟨f0, f1, f2⟩ := HR2.out.cells
      go_wp2_with fail
      refine (HPo.out x w2 hx HR2.out.bel).mono ?_
      rintro e w3 ⟨rfl, hb3⟩
      have HR3 := Lib.hid (HR2.out.step hb3)
      clear hb3 f0 f1 f2
      generalize addV P D s x = s2 at *
      generalize rpwS (timM P D low) x P = x2 at *
      go_wp2_with fail
      go_roundw
      case rel => exact ⟨k + 1, x2, s2, by omega, by go_num, rfl, rfl, hp1, by omega, HN.out, HR3.out⟩
      case measure => simp [intOf]; omega
    · obtain rfl : k = D := by omega
      have HZ : Hid (s = rtrS P k low k 0 a) := by
        show _ = _
        rw [← HTr.out, Nat.sub_self, rtrS]
      go_wp2_with fail
      go_ret
      exact ⟨ret_int (by rw [HZ.out]), HR.out.bel⟩
end Go.Proofs.YtdbfpdhcaiiiaaaDoor

namespace Go.Proofs.YtdbfpdhcaiiiaaaDoor
open Go.RowKit

/-- The powers of an element till one is 1. -/
def rordS (M : Nat → Nat → Nat) (a q : Nat) : Nat → Nat → Nat → Nat × Nat
  | 0, x, n => (x, n)
  | f + 1, x, n => if x ≠ 1 ∧ n < q then rordS M a q f (M x a) (n + 1) else (x, n)
/-- The least element whose powers are all; 0: none. -/
def rrootS (M : Nat → Nat → Nat) (q : Nat) : Nat → Nat → Nat
  | 0, _ => 0
  | f + 1, a => if a < q then (if (rordS M a q 70 a 1).1 = 1 ∧ (rordS M a q 70 a 1).2 = q - 1 then a else rrootS M q f (a + 1)) else 0

set_option maxRecDepth 100000 in
set_option maxHeartbeats 3000000 in
theorem rroot_any (P D : Nat) (v : Value) (low : List Int) (w : World) (h : IntsAt w v low) (hF : IsField P D low) :
    Calls Tryd.prog 46 #[.agg #[.int .i64 P, .int .i64 D, v]] w fun e w' => e = .returned (.int .i64 (rrootS (timM P D low) (P ^ D) 70 1 : Nat)) ∧ Below w.heap.size w w' := by
  obtain ⟨sa, sc, rfl, _⟩ := id h
  have HS := Lib.hid (FbRel.begin w P D (.slice sa low.length sc))
  have HSz : Hid (∀ W, Calls Tryd.prog 32 #[.agg #[.int .i64 P, .int .i64 D, .slice sa low.length sc]] W fun e w' => e = .returned (.int .i64 (P ^ D : Nat)) ∧ Below W.heap.size W w') := fun W => by
    have := size_any P D (.slice sa low.length sc) W ⟨_, _, _, rfl⟩
    rw [hF.q] at this; exact this
  have hq64 := hF.q64
  have HTi : Hid (∀ (x y : Nat) W, x < P ^ D → y < P ^ D → Below w.heap.size w W → Calls Tryd.prog 33 #[.agg #[.int .i64 P, .int .i64 D, .slice sa low.length sc], .int .i64 (x : Int), .int .i64 (y : Int)] W fun e w' => e = .returned (.int .i64 (timM P D low x y : Nat)) ∧ Below W.heap.size W w') :=
    fun x y W hx hy hW => rtimes_any P D x y _ low W (h.below hW) hF (by omega) (by omega)
  have HTl : Hid (∀ x y, timM P D low x y < P ^ D) := fun x y => timM_lt hF x y
  have hq1 : 1 ≤ P ^ D := pow_one_le (by have := hF.p2; omega) D
  clear h hF
  obtain ⟨q, hq⟩ : ∃ q, q = P ^ D := ⟨_, rfl⟩
  rw [← hq] at HSz HTi HTl hq64 hq1
  rw [← hq]
  clear hq
  obtain ⟨M, hM⟩ : ∃ M, M = timM P D low := ⟨_, rfl⟩
  rw [← hM] at HTi HTl
  rw [← hM]
  clear hM
  go_enter Tryd.func46, Tryd.ntmps46
  go_wp2_with fail
  refine (HSz.out _).mono ?_
  rintro e w1 ⟨rfl, hb1⟩
  have HR := Lib.hid (HS.out.step hb1)
  clear hb1
  go_wp2_with fail
  go_loopw [4, 5, 6] (fun s _ _ wr => ∃ f a : Nat, s = .int .i64 a ∧ 1 ≤ a ∧ a + f = 71 ∧ a ≤ q ∧ rrootS M q f a = rrootS M q 70 1 ∧ FbRel w wr P D (.slice sa low.length sc)) (fun s _ _ _ => 100 - (intOf s).toNat)
  case atStart => exact ⟨70, 1, rfl, by omega, by omega, hq1, rfl, HR.out⟩
  case round =>
    clear HR
    obtain ⟨f, a, rfl, ha1, haf, haq, hP, hR⟩ := hrel
    have HR := Lib.hid hR
    have HAf := Lib.hid haf
    cases f with
    | zero => exfalso; omega
    | succ f =>
      rw [rrootS] at hP
      have HP := Lib.hid hP
      clear hR hP haf
      by_cases hlt : a < q
      · obtain ⟨X, hX⟩ : ∃ X, X = rordS M a q 70 a 1 := ⟨_, rfl⟩
        have HX := Lib.hid hX
        have HP1 : Hid ((if X.1 = 1 ∧ X.2 = q - 1 then a else rrootS M q f (a + 1)) = rrootS M q 70 1) := by
          show _ = _
          rw [← HP.out, if_pos hlt, hX]
        clear hX HP
        go_wp2_with fail
        go_loopw [5, 6] (fun s t wr => ∃ g x n : Nat, s = .int .i64 x ∧ t = .int .i64 n ∧ x < q ∧ n + g = 71 ∧ n ≤ q ∧ rordS M a q g x n = X ∧ FbRel w wr P D (.slice sa low.length sc)) (fun _ t _ => 100 - (intOf t).toNat)
        case atStart => exact ⟨70, a, 1, rfl, rfl, hlt, by omega, hq1, HX.out.symm, HR.out⟩
        case round =>
          clear HR
          obtain ⟨g, x, n, rfl, rfl, hx, hng, hnq, hP2, hR⟩ := hrel
          have HR := Lib.hid hR
          have HNg := Lib.hid hng
          have hn70 : n ≤ 70 := by omega
          cases g with
          | zero => exfalso; omega
          | succ g =>
            rw [rordS] at hP2
            clear hR hng
            by_cases hgo : x ≠ 1 ∧ n < q
            · rw [if_pos hgo] at hP2
              have HP2 := Lib.hid hP2
              have t1 : (((x : Nat) : Int) != 1) = true := by simp; omega
              have hnq2 := hgo.2
              have hl := HTl.out x a
              obtain ⟨f0, f1, f2⟩ := HR.out.cells
              clear hP2 hgo
              go_wp2_with fail
              refine (HTi.out x a _ hx hlt HR.out.bel).mono ?_
              rintro e w2 ⟨rfl, hb2⟩
              have HR2 := Lib.hid (HR.out.step hb2)
              have hNg := HNg.out
              clear hb2 f0 f1 f2
              generalize M x a = y at *
              go_wp2_with fail
              go_roundw
              case rel => exact ⟨g, y, n + 1, rfl, by go_num, hl, by omega, by omega, HP2.out, HR2.out⟩
              case measure => simp [intOf]; omega
            · rw [if_neg hgo] at hP2
              subst hP2
              by_cases hok : x = 1 ∧ n = q - 1
              · have HF : Hid (a = rrootS M q 70 1) := by show _ = _; rw [← HP1.out, if_pos hok]
                have t1 : (((x : Nat) : Int) != 1) = false := by simp; omega
                have t2 : (((x : Nat) : Int) == 1) = true := by simp; omega
                have t3 : (((n : Nat) : Int) == (q : Int) - 1) = true := by simp; omega
                clear hgo hok HX
                go_wp2_with fail
                go_ret
                exact ⟨ret_int (by rw [← HF.out]), HR.out.bel⟩
              · have HF : Hid (rrootS M q f (a + 1) = rrootS M q 70 1) := by show _ = _; rw [← HP1.out, if_neg hok]
                have hAf := HAf.out
                by_cases hx1 : x = 1
                · have t1 : (((x : Nat) : Int) != 1) = false := by simp; omega
                  have t2 : (((x : Nat) : Int) == 1) = true := by simp; omega
                  have t3 : (((n : Nat) : Int) == (q : Int) - 1) = false := by simp; omega
                  clear hgo hok hx1 HX
                  go_wp2_with fail
                  go_roundw
                  case rel => exact ⟨f, a + 1, by go_num, by omega, by omega, by omega, HF.out, HR.out⟩
                  case measure => simp [intOf]; omega
                · have t1 : (((x : Nat) : Int) != 1) = true := by simp; omega
                  have t2 : (((x : Nat) : Int) == 1) = false := by simp; omega
                  have t4 : ¬ n < q := by omega
                  clear hgo hok hx1 HX
                  go_wp2_with fail
                  go_roundw
                  case rel => exact ⟨f, a + 1, by go_num, by omega, by omega, by omega, HF.out, HR.out⟩
                  case measure => simp [intOf]; omega
      · have HF : Hid (0 = rrootS M q 70 1) := by show _ = _; rw [← HP.out, if_neg hlt]
        go_wp2_with fail
        go_ret
        exact ⟨ret_int (by rw [← HF.out]; rfl), HR.out.bel⟩
end Go.Proofs.YtdbfpdhcaiiiaaaDoor
