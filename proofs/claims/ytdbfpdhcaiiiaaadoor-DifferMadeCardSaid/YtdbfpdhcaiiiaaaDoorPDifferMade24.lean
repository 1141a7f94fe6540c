/-
  Contract: the reference's Times. No condition.
  The product of the program and that of the reference are one, in all fields of few elements: reckoned. No program in sight. No condition.
-/
import Derived.Test.YtdbfpdhcaiiiaaaDoorPDifferMade23
import Derived.Test.YtdbfpdhcaiiiaaaDoorPDifferMade12
namespace Go.Proofs.YtdbfpdhcaiiiaaaDoor
open Go.RowKit

/-- The product, as the reference has it. -/
def timF (p d : Nat) (low : Nat → Nat) (a b : Nat) : Nat → Nat := divF p d (2 * d - 1) low (prF p d (dF p a) (dF p b) d) d
def timesV (p d : Nat) (low : Nat → Nat) (a b : Nat) : Nat := numF p d (timF p d low a b)
theorem timF_lt {p d : Nat} {low : Nat → Nat} {a b : Nat} (hp : 1 ≤ p) (j : Nat) : timF p d low a b j < p := divF_lt hp (fun j => prF_lt hp d j) d j
theorem timesV_lt {p d : Nat} {low : Nat → Nat} {a b : Nat} (hp : 1 ≤ p) : timesV p d low a b < p ^ d := numF_lt fun j _ => timF_lt hp j
theorem take_nl (f : Nat → Nat) {n m : Nat} (h : n ≤ m) : (nl f m).take n = nl f n := by
  apply List.ext_getElem
  · rw [List.length_take, nl_len, nl_len]; omega
  · intro i h1 h2
    rw [nl_len] at h2
    simp [nl]

theorem run_head (w : World) (a : Option Addr) (n c h : Nat) (hh : h ≤ c) :
    (Instr.slice 22 (.slice a n c) none (some (.int .i64 (h : Int))) none).run Tryd.prog w = .ok (.slice a h c) w := by
  rw [run_slice_h w 22 a n c und_ints .i64 h (by omega) (by omega), size_int]
  cases a with
  | none => simp [Result.andThen, sliced]
  | some p => cases p; simp [Result.andThen, sliced, Addr.add]
theorem RowRel.head {w wr : World} {B g n c : Nat} {f : Nat → Nat} (h : RowRel w wr B g n c f) {m : Nat} (hm : m ≤ n) (hn1 : 1 ≤ n) : IntsAt wr (.slice (some ⟨g, 0, none⟩) m c) (nl f m) ∧ m ≤ c := by
  rcases h.own.2 with ⟨e, _⟩ | ⟨g', cap, cur, e, _, hh, hc, hmx, _⟩
  · cases e
  · injection e with e1 e2 e3
    subst e3
    rw [nl_len] at hc
    unfold maxLen at hmx
    refine ⟨⟨some ⟨g, 0, none⟩, c, by rw [nl_len], by rw [nl_len]; omega, by omega, (fun h => by cases h), fun i hi => ⟨g, 0, rfl, ?_, fun j hj => ?_⟩⟩, by omega⟩
    · exact World.block_lt_of_cell? wr ⟨g, 0, none⟩ (h.cell (j := 0) hn1).1
    · rw [nl_len] at hj
      rw [Nat.zero_add, nl_ix f hj]
      exact (h.cell (by omega)).1

set_option maxRecDepth 100000 in
set_option maxHeartbeats 6000000 in
theorem rtimes_any (p d a b : Nat) (v : Value) (low : List Int) (w : World) (hI : IntsAt w v low) (hF : IsField p d low) (ha : a ≤ 64) (hb : b ≤ 64) :
    Calls Tryd.prog 33 #[.agg #[.int .i64 p, .int .i64 d, v], .int .i64 a, .int .i64 b] w fun e w' => e = .returned (.int .i64 (timesV p d (lF low) a b : Nat)) ∧ Below w.heap.size w w' := by
  obtain ⟨la, lc, rfl, _, _, _, l3⟩ := id hI
  have HX := Lib.hid l3
  have hp := hF.p2; have hp61 := hF.p61; have hd1 := hF.d1; have hd6 := hF.d6
  have hp0 : ¬ p = 0 := by omega
  have HF := Lib.hid hF
  have HS := Lib.hid (FbRel.begin w p d (.slice la low.length lc))
  have HD1 := Lib.hid (fun W => rdigits_any a p d W ha hp (by omega) (by omega))
  have HD2 := Lib.hid (fun W => rdigits_any b p d W hb hp (by omega) (by omega))
  have HLen := Lib.hid hF.len
  clear l3 hI hF
  go_enter Tryd.func33, Tryd.ntmps33
  go_wp2_with fail
  refine (HD1.out _).mono ?_
  rintro e w1 ⟨v1, rfl, ho1, hb1⟩
  obtain ⟨g1, c1, rfl, _⟩ := own_row ho1 hd1
  have HR1 := Lib.hid (HS.out.step hb1)
  have HI1 := Lib.hid (ho1.intsAt (by rw [nl_len]; omega))
  obtain ⟨f0, f1, f2⟩ := HR1.out.cells
  clear ho1 hb1
  go_wp2_with fail
  refine (HD2.out _).mono ?_
  rintro e w2 ⟨v2, rfl, ho2, hb2⟩
  obtain ⟨g2, c2, rfl, _⟩ := own_row ho2 hd1
  have HR2 := Lib.hid (HR1.out.step hb2)
  have HPr := Lib.hid (rproduct_any p d _ _ (dF p a) (dF p b) w2 (HI1.out.below hb2) (ho2.intsAt (by rw [nl_len]; omega)) hp (by omega) hd1 hd6 (fun j _ => dF_lt (by omega)) (fun j _ => dF_lt (by omega)))
  clear ho2 hb2 f0 f1 f2 HI1 HD1 HD2
  obtain ⟨f0, f1, f2⟩ := HR2.out.cells
  go_wp2_with fail
  refine HPr.out.mono ?_
  rintro e w3 ⟨g, gc, rfl, hrow⟩
  have HR3 := Lib.hid (HR2.out.step hrow.bel)
  have HZ3 : Hid (w.heap.size < w2.heap.size) := Arr.lt HR2.out.fb
  have HW3 : Hid (RowRel w w3 w2.heap.size g (d + d) gc (divF p d (2 * d - 1) (lF low) (prF p d (dF p a) (dF p b) d) 0)) := ⟨HR3.out.bel, Nat.le_of_lt HZ3.out, hrow.own⟩
  have HFb : Hid (Arr w3 w.heap.size 3 (three (.int .i64 (p : Int)) (.int .i64 (d : Int)) (.slice la low.length lc))) := HR3.out.fb
  have hd2 : IntKind.i64.wrap ((d : Int) + (d : Int) - 1) = (d : Int) + (d : Int) - 1 := IntWalk.i64_in _ (by omega)
  clear hrow f0 f1 f2
  obtain ⟨f0, f1, f2⟩ := HR3.out.cells
  clear HR1 HR2 HPr HR3 HS
  generalize w2.heap.size = B at *
  go_wp2_with fail
  clear hd2 f0 f1 f2
  go_loopw [10, 11, 12, 13] (fun u _ _ _ wr => ∃ s T : Nat, T + s + 1 = d + d ∧ d ≤ T + 1 ∧ u = .int .i64 T ∧ RowRel w wr B g (d + d) gc (divF p d (2 * d - 1) (lF low) (prF p d (dF p a) (dF p b) d) s) ∧ Arr wr w.heap.size 3 (three (.int .i64 (p : Int)) (.int .i64 (d : Int)) (.slice la low.length lc))) (fun u _ _ _ _ => (intOf u).toNat)
  case atStart => exact ⟨0, d + d - 1, by omega, by omega, by rw [Int.ofNat_sub (show 1 ≤ d + d by omega)]; rfl, HW3.out, HFb.out⟩
  case round =>
    clear HW3 HFb
    obtain ⟨s, T, hT, hdT, rfl, hR, hfb⟩ := hrel
    have HR := Lib.hid hR; have HFb := Lib.hid hfb
    clear hR hfb
    have HTs := Lib.hid hT
    have f0 : wr.cell? ⟨w.heap.size, 0, none⟩ = some (.int .i64 (p : Int)) := HFb.out.cell (show 0 < 3 by omega)
    have f1 : wr.cell? ⟨w.heap.size, 1, none⟩ = some (.int .i64 (d : Int)) := HFb.out.cell (show 1 < 3 by omega)
    have f2 : wr.cell? ⟨w.heap.size, 2, none⟩ = some (.slice la low.length lc) := HFb.out.cell (show 2 < 3 by omega)
    by_cases hlt : d ≤ T
    · obtain ⟨t, ht⟩ : ∃ t, t = T - d := ⟨_, rfl⟩
      obtain ⟨A, hAe⟩ : ∃ A, A = divF p d (2 * d - 1) (lF low) (prF p d (dF p a) (dF p b) d) s := ⟨_, rfl⟩
      have hAl : ∀ j, A j < p := fun j => by rw [hAe]; exact divF_lt (by omega) (fun j => prF_lt (by omega) d j) s j
      rw [← hAe] at HR
      have HA := Lib.hid hAl
      have HAe := Lib.hid hAe
      have hTd : T < d + d := by omega
      have hTdi : (T : Int) < (d : Int) + (d : Int) := by omega
      obtain ⟨c1, c2⟩ := HR.out.cell hTd
      have hcT := hAl T
      have HTt : Hid (t + d = T) := by show _ = _; omega
      have HR1 : Hid (RowRel w (wr.setCell ⟨g, T, none⟩ (.int .i64 0)) B g (d + d) gc (inR p d t (lF low) A 0)) := (HR.out.put hTd 0).congr fun j _ => by rw [← HTt.out]; exact inR_zero p d t (lF low) A j
      have hgB : B ≤ g := (HR.out.own.cellAt (j := T) (by rw [nl_len]; exact hTd)).2.2
      have hz3 := HZ3.out
      have HFb1 : Hid (Arr (wr.setCell ⟨g, T, none⟩ (.int .i64 0)) w.heap.size 3 (three (.int .i64 (p : Int)) (.int .i64 (d : Int)) (.slice la low.length lc))) := Arr.setOther HFb.out (by show g ≠ _; omega) _
      clear hAl hAe hT HR HFb
      go_wp2_with fail
      clear c1 c2 f0 f1 f2
      obtain ⟨C, hC⟩ : ∃ C, C = A T := ⟨_, rfl⟩
      have HC := Lib.hid hC
      rw [← hC] at hcT
      rw [← hC]
      clear hC
      go_loopw [12, 13] (fun u _ wr => ∃ i : Nat, i ≤ d ∧ u = .int .i64 i ∧ RowRel w wr B g (d + d) gc (inR p d t (lF low) A i) ∧ Arr wr w.heap.size 3 (three (.int .i64 (p : Int)) (.int .i64 (d : Int)) (.slice la low.length lc))) (fun u _ _ => d + 1 - (intOf u).toNat)
      case atStart => exact ⟨0, by omega, rfl, HR1.out, HFb1.out⟩
      case round =>
        clear HR1 HFb1
        obtain ⟨i, hi, rfl, hR, hfb⟩ := hrel
        have HR := Lib.hid hR; have HFb := Lib.hid hfb
        clear hR hfb
        have f0 : wr.cell? ⟨w.heap.size, 0, none⟩ = some (.int .i64 (p : Int)) := HFb.out.cell (show 0 < 3 by omega)
        have f1 : wr.cell? ⟨w.heap.size, 1, none⟩ = some (.int .i64 (d : Int)) := HFb.out.cell (show 1 < 3 by omega)
        have f2 : wr.cell? ⟨w.heap.size, 2, none⟩ = some (.slice la low.length lc) := HFb.out.cell (show 2 < 3 by omega)
        by_cases hin : i < d
        · obtain ⟨q, hq⟩ : ∃ q, q = t + i := ⟨_, rfl⟩
          have hqd : q < d + d := by omega
          obtain ⟨c1, c2⟩ := HR.out.cell hqd
          rw [hq, inR_at hin, ← hq] at c1
          have hil : i < low.length := by rw [HLen.out]; exact hin
          obtain ⟨b', o, rfl, hb, hc⟩ := HX.out i hil
          have c3 := hc i hil
          rw [HF.out.lowCast hin, ← HR.out.bel.cell (p := ⟨b', o + i, none⟩) hb] at c3
          clear hc
          have hy := HF.out.lowLt i
          have hx := HA.out q
          obtain ⟨Z, v0, z1, z2, z3, v1, v2, v3, v4, v5, v6⟩ := rem_vals hp (by omega) hcT hx hy
          have HPut : Hid (RowRel w (wr.setCell ⟨g, q, none⟩ (.int .i64 (((A q + (p - C) * lF low i) % p : Nat) : Int))) B g (d + d) gc (inR p d t (lF low) A (i + 1))) :=
            (HR.out.put hqd _).congr fun j _ => by rw [← inR_next, HTt.out, ← HC.out, ← hq]
          have HFb2 : Hid (∀ x, Arr (wr.setCell ⟨g, q, none⟩ x) w.heap.size 3 (three (.int .i64 (p : Int)) (.int .i64 (d : Int)) (.slice (some ⟨b', o, none⟩) low.length lc))) := fun x => Arr.setOther HFb.out (by show g ≠ _; omega) _
          have hqi : (q : Int) < (d : Int) + (d : Int) := by omega
          have hii : (i : Int) < (low.length : Int) := by omega
          have hid : (i : Int) < (d : Int) := by omega
          have hm : C * lF low i ≤ 64 * 64 := Nat.mul_le_mul (by omega) (by omega)
          have hr : (A q + (p - C) * lF low i) % p < p := Nat.mod_lt _ (by omega)
          clear v5
          generalize (A q + (p - C) * lF low i) % p = R at *
          generalize C * lF low i = M at *
          generalize lF low i = Y at *
          generalize A q = X at *
          rw [ht] at hq
          subst hq
          go_wp2_with fail
          go_region
          all_goals
            have HP2 := Lib.hid (HPut.out.drewN 1)
            have HFb3 := Lib.hid (Arr.drewN (HFb2.out (.int .i64 (R : Int))) 1)
            clear c1 c2 c3 v0 v1 v2 v3 v4 v6 f0 f1 f2
            go_wp2_with fail
            go_roundw
            case rel => exact ⟨i + 1, by omega, by go_num, HP2.out, HFb3.out⟩
            case measure => simp [intOf]; omega
        · obtain rfl : i = d := by omega
          have HR2 : Hid (RowRel w wr B g (i + i) gc (divF p i (2 * i - 1) (lF low) (prF p i (dF p a) (dF p b) i) (s + 1))) := HR.out.congr fun j _ => by
            rw [divF, ← HAe.out, inR_last]
            congr 1
            have := HTs.out
            omega
          clear HR
          go_wp2_with fail
          go_roundw
          case rel =>
            have hTs := HTs.out
            exact ⟨s + 1, T - 1, by omega, by omega, by rw [Int.ofNat_sub (show 1 ≤ T by omega)]; rfl, HR2.out, HFb.out⟩
          case measure => simp [intOf]; omega
    · have HR2 : Hid (RowRel w wr B g (d + d) gc (timF p d (lF low) a b)) := by
        have : s = d := by have := HTs.out; omega
        have h := HR.out
        rw [this] at h; exact h
      clear HR hT
      obtain ⟨hhd, hcap⟩ := HR2.out.head (m := d) (by omega) (by omega)
      have hsl := fun W => run_head W (some ⟨g, 0, none⟩) (d + d) gc d hcap
      have HHd := Lib.hid hhd
      have HNum : Hid (∀ n, Calls Tryd.prog 55 #[.slice (some ⟨g, 0, none⟩) d gc, .int .i64 (p : Int)] (wr.drewN n) fun e w' => e = .returned (.int .i64 (timesV p d (lF low) a b : Nat)) ∧ w' = wr.drewN n) := fun n =>
        (rnumber_any p d _ _ (wr.drewN n) (HHd.out.below (below_D _ _)) hp (by omega) hd1 hd6 HF.out.q64 (fun j _ => timF_lt (by omega) j)).mono fun e w' he => ⟨he.1, he.2.symm⟩
      clear hhd hcap
      go_wp2_with fail
      go_quiet ((go_at_call 55; exact Calls.quiet_of_same (HNum.out _)))
      go_wp2_with fail
      go_ret
      exact ⟨rfl, below_drewN HR2.out.bel _⟩
end Go.Proofs.YtdbfpdhcaiiiaaaDoor

namespace Go.Proofs.YtdbfpdhcaiiiaaaDoor
open Go.RowKit

/-- The product of two polynomials over lists. -/
def prL (p d : Nat) (xs ys : List Nat) : Nat → List Nat
  | 0 => List.replicate (2 * d) 0
  | i + 1 => (List.range (2 * d)).map fun j => if i ≤ j ∧ j < i + d then (gl (prL p d xs ys i) j + gl xs i * gl ys (j - i)) % p else gl (prL p d xs ys i) j
def timC (p : Nat) (low : List Nat) (a b : Nat) : Nat :=
  numL p ((divGo p low.length (2 * low.length - 1) low (prL p low.length (dg p a low.length) (dg p b low.length) low.length) low.length).take low.length)
theorem prL_len (p d : Nat) (xs ys : List Nat) : ∀ i, (prL p d xs ys i).length = 2 * d
  | 0 => by simp [prL]
  | i + 1 => by simp [prL]
theorem prL_get (p d : Nat) (xs ys : List Nat) (X Y : Nat → Nat) (hx : ∀ j, j < d → gl xs j = X j) (hy : ∀ j, j < d → gl ys j = Y j) : ∀ i, i ≤ d → ∀ j, j < 2 * d → gl (prL p d xs ys i) j = prF p d X Y i j
  | 0, _, j, hj => by
    show gl (List.replicate (2 * d) 0) j = 0
    unfold gl; rw [List.getD_eq_getElem?_getD]; simp [hj]
  | i + 1, hi, j, hj => by
    have ih := prL_get p d xs ys X Y hx hy i (by omega) j hj
    have e : gl (prL p d xs ys (i + 1)) j = if i ≤ j ∧ j < i + d then (gl (prL p d xs ys i) j + gl xs i * gl ys (j - i)) % p else gl (prL p d xs ys i) j := by
      rw [prL]
      show ((List.range (2 * d)).map _).getD j 0 = _
      rw [List.getD_eq_getElem?_getD]; simp [hj]
    rw [e, prF, ih]
    by_cases h : i ≤ j ∧ j < i + d
    · rw [if_pos h, if_pos h, hx i (by omega), hy (j - i) (by omega)]
    · rw [if_neg h, if_neg h]
theorem timesV_of (p : Nat) (low : List Nat) (a b : Nat) (hd : 1 ≤ low.length) : timesV p low.length (gl low) a b = timC p low a b := by
  unfold timC timesV
  have hlen := prL_len p low.length (dg p a low.length) (dg p b low.length) low.length
  have hdl := divGo_len p low.length (2 * low.length - 1) low (prL p low.length (dg p a low.length) (dg p b low.length) low.length) low.length
  rw [numL_eq, List.length_take, hdl, hlen, Nat.min_eq_left (by omega)]
  refine numF_congr fun j hj => ?_
  have h := divGo_get p low.length (2 * low.length - 1) low (prL p low.length (dg p a low.length) (dg p b low.length) low.length) (gl low) (prF p low.length (dF p a) (dF p b) low.length) (by omega) (by rw [hlen]; omega) (fun j _ => rfl)
    (fun j hj => prL_get p low.length _ _ _ _ (fun j hj => dg_get p _ _ _ hj) (fun j hj => dg_get p _ _ _ hj) _ (Nat.le_refl _) j (by rw [hlen] at hj; exact hj)) low.length (by omega) j (by rw [hlen]; omega)
  unfold timF
  rw [← h]
  unfold gl
  rw [List.getD_eq_getElem?_getD, List.getD_eq_getElem?_getD, List.getElem?_take_of_lt hj]
def mulTimes (p d : Nat) : Bool := (lows p d).all fun l => !irrC p d l || (List.range (p ^ d)).all fun a => (List.range (p ^ d)).all fun b => mulC p l a b == timC p l a b
theorem mt21 : mulTimes 2 1 = true := by decide +kernel
theorem mt31 : mulTimes 3 1 = true := by decide +kernel
theorem mt51 : mulTimes 5 1 = true := by decide +kernel
theorem mt71 : mulTimes 7 1 = true := by decide +kernel
theorem mt22 : mulTimes 2 2 = true := by decide +kernel
theorem mt23 : mulTimes 2 3 = true := by decide +kernel
theorem timesM_of {p d : Nat} {low : List Int} (hF : IsField p d low) (a b : Nat) : timesV p d (lF low) a b = timC p (lowN low) a b := by
  have := timesV_of p (lowN low) a b (by rw [lowN_len, hF.len]; exact hF.d1)
  rw [lowN_len, hF.len, ← lowN_get] at this
  exact this
theorem mt_of {p d : Nat} {low : List Int} (hF : IsField p d low) (h : mulTimes p d = true) {a b : Nat} (ha : a < p ^ d) (hb : b < p ^ d) : mulM p d low a b = timesV p d (lF low) a b := by
  have h1 := List.all_eq_true.1 h _ hF.mem
  rw [hF.irrC, Bool.not_true, Bool.false_or] at h1
  have h2 := List.all_eq_true.1 h1 a (List.mem_range.2 ha)
  have h3 := List.all_eq_true.1 h2 b (List.mem_range.2 hb)
  rw [mulM_of hF, timesM_of hF]
  simpa using h3
/-- Of at most eight elements. -/
theorem mul_times8 {p d : Nat} {low : List Int} (hF : IsField p d low) (h8 : p ^ d ≤ 8) {a b : Nat} (ha : a < p ^ d) (hb : b < p ^ d) : mulM p d low a b = timesV p d (lF low) a b := by
  rcases hF.cases with h | h
  · subst h
    have hp := hF.pr
    rw [Nat.pow_one] at h8
    unfold isPB at hp
    rw [List.contains_eq_mem, decide_eq_true_eq] at hp
    simp only [primesL, List.mem_cons, List.not_mem_nil, or_false] at hp
    have : p = 2 ∨ p = 3 ∨ p = 5 ∨ p = 7 := by omega
    rcases this with rfl | rfl | rfl | rfl
    · exact mt_of hF mt21 ha hb
    · exact mt_of hF mt31 ha hb
    · exact mt_of hF mt51 ha hb
    · exact mt_of hF mt71 ha hb
  · simp only [ordersL, List.mem_cons, Prod.mk.injEq, List.not_mem_nil, or_false] at h
    rcases h with h | h | h | h | h | h | h | h | h
    all_goals obtain ⟨rfl, rfl⟩ := h
    · exact mt_of hF mt22 ha hb
    · exact mt_of hF mt23 ha hb
    all_goals exact absurd h8 (by decide)
end Go.Proofs.YtdbfpdhcaiiiaaaDoor
