/-
  Contract: the reference's divides. No condition.
-/
import Derived.Test.YtdbfpdhcaiiiaaaDoorPDifferMade14
namespace Go.Proofs.YtdbfpdhcaiiiaaaDoor
open Go.RowKit

theorem rem_vals {p c x y : Nat} (hp0 : 2 ≤ p) (hp : p ≤ 64) (hc : c < p) (hx : x < p) (hy : y < p) :
    ∃ T : Int, ((x : Int) - ((c * y : Nat) : Int)).tmod (p : Int) = T ∧ -64 < T ∧ T < 64 ∧ 0 ≤ T + (p : Int) ∧
      IntKind.i64.wrap ((c : Int) * (y : Int)) = ((c * y : Nat) : Int) ∧ IntKind.i64.wrap ((x : Int) - ((c * y : Nat) : Int)) = (x : Int) - ((c * y : Nat) : Int) ∧
      IntKind.i64.wrap T = T ∧ IntKind.i64.wrap (T + (p : Int)) = T + (p : Int) ∧ (T + (p : Int)) % (p : Int) = (((x + (p - c) * y) % p : Nat) : Int) ∧ (T + (p : Int)).tmod (p : Int) = (((x + (p - c) * y) % p : Nat) : Int) := by
  have h1 : c * y ≤ 64 * 64 := Nat.mul_le_mul (by omega) (by omega)
  refine ⟨_, rfl, ?_⟩
  have hT := Int.tmod_lt_of_pos ((x : Int) - ((c * y : Nat) : Int)) (show (0 : Int) < p by omega)
  have hT2 : -(p : Int) < ((x : Int) - ((c * y : Nat) : Int)).tmod (p : Int) := by
    have := Int.lt_tmod_of_pos ((x : Int) - ((c * y : Nat) : Int)) (show (0 : Int) < p by omega)
    exact this
  have he : (((x : Int) - ((c * y : Nat) : Int)).tmod (p : Int) + (p : Int)) % (p : Int) = (((x + (p - c) * y) % p : Nat) : Int) := by
    have e0 : (((x + (p - c) * y) % p : Nat) : Int) = ((x : Int) + ((p : Int) - (c : Int)) * (y : Int)) % (p : Int) := by rw [Int.natCast_emod, Int.natCast_add, Int.natCast_mul, Int.ofNat_sub (Nat.le_of_lt hc)]
    rw [e0, Int.tmod_def, Int.natCast_mul]
    have e1 : (x : Int) - (c : Int) * (y : Int) - (p : Int) * ((x : Int) - (c : Int) * (y : Int)).tdiv (p : Int) + (p : Int) = (x : Int) - (c : Int) * (y : Int) + (p : Int) * (1 - ((x : Int) - (c : Int) * (y : Int)).tdiv (p : Int)) := by
      rw [Int.mul_sub, Int.mul_one]; omega
    have e2 : (x : Int) + ((p : Int) - (c : Int)) * (y : Int) = (x : Int) - (c : Int) * (y : Int) + (p : Int) * (y : Int) := by
      rw [Int.sub_mul]; omega
    rw [e1, e2, Int.add_mul_emod_self_left, Int.add_mul_emod_self_left]
  generalize ((x : Int) - ((c * y : Nat) : Int)).tmod (p : Int) = T at *
  refine ⟨by omega, by omega, by omega, ?_, ?_, ?_, ?_, he, ?_⟩
  · rw [← Int.natCast_mul]; exact IntWalk.i64_in _ (by omega)
  · exact IntWalk.i64_in _ (by omega)
  · exact IntWalk.i64_in _ (by omega)
  · exact IntWalk.i64_in _ (by omega)
  · rw [Int.tmod_eq_emod_of_nonneg (by omega)]; exact he
/-- A step of the reference's division behind i of its places. -/
def inR (p n t : Nat) (d A : Nat → Nat) (i j : Nat) : Nat := if t ≤ j ∧ j < t + i then (A j + (p - A (t + n)) * d (j - t)) % p else if j = t + n then 0 else A j
theorem inR_zero (p n t : Nat) (d A : Nat → Nat) (j : Nat) : (if j = t + n then 0 else A j) = inR p n t d A 0 j := by unfold inR; rw [if_neg (show ¬ (t ≤ j ∧ j < t + 0) by omega)]
theorem inR_at {p n t i : Nat} {d A : Nat → Nat} (hi : i < n) : inR p n t d A i (t + i) = A (t + i) := by unfold inR; rw [if_neg (by omega), if_neg (by omega)]
theorem inR_next (p n t i : Nat) (d A : Nat → Nat) (j : Nat) : (if j = t + i then (A (t + i) + (p - A (t + n)) * d i) % p else inR p n t d A i j) = inR p n t d A (i + 1) j := by
  unfold inR
  by_cases e : j = t + i
  · subst e; rw [if_pos rfl, if_pos (show t ≤ t + i ∧ t + i < t + (i + 1) by omega), Nat.add_sub_cancel_left]
  · rw [if_neg e]
    by_cases e2 : t ≤ j ∧ j < t + i
    · rw [if_pos e2, if_pos (show t ≤ j ∧ j < t + (i + 1) by omega)]
    · rw [if_neg e2, if_neg (show ¬ (t ≤ j ∧ j < t + (i + 1)) by omega)]
theorem inR_last (p n t : Nat) (d A : Nat → Nat) (j : Nat) : inR p n t d A n j = redF p n t d A j := rfl
/-- What a walk over a row of the call's own holds. -/
structure RowRel (w wr : World) (B : Nat) (g n c : Nat) (f : Nat → Nat) : Prop where
  bel : Below w.heap.size w wr
  lo : w.heap.size ≤ B
  own : Own wr B 3 (.slice (some ⟨g, 0, none⟩) n c) (nl f n)
theorem RowRel.put {w wr : World} {B g n c : Nat} {f : Nat → Nat} (h : RowRel w wr B g n c f) {j : Nat} (hj : j < n) (x : Nat) :
    RowRel w (wr.setCell ⟨g, j, none⟩ (.int .i64 (x : Int))) B g n c (fun i => if i = j then x else f i) := by
  have hc := h.own.cellAt (j := j) (by rw [nl_len]; exact hj)
  refine ⟨h.bel.setCell (Nat.le_trans h.lo hc.2.2) _, h.lo, ?_⟩
  rw [← nl_set]
  exact h.own.put (by rw [nl_len]; exact hj) _
theorem RowRel.cell {w wr : World} {B g n c : Nat} {f : Nat → Nat} (h : RowRel w wr B g n c f) {j : Nat} (hj : j < n) : wr.cell? ⟨g, j, none⟩ = some (.int .i64 ((f j : Nat) : Int)) ∧ wr.frozen? ⟨g, j, none⟩ = false := by
  have hc := h.own.cellAt (j := j) (by rw [nl_len]; exact hj)
  rw [nl_ix f hj] at hc
  exact ⟨hc.1, hc.2.1⟩
theorem RowRel.congr {w wr : World} {B g n c : Nat} {f f' : Nat → Nat} (h : RowRel w wr B g n c f) (e : ∀ j, j < n → f j = f' j) : RowRel w wr B g n c f' := ⟨h.bel, h.lo, by rw [← nl_congr e]; exact h.own⟩
theorem RowRel.drewN {w wr : World} {B g n c : Nat} {f : Nat → Nat} (h : RowRel w wr B g n c f) (m : Nat) : RowRel w (wr.drewN m) B g n c f := ⟨below_drewN h.bel m, h.lo, h.own.drewN m⟩

set_option maxRecDepth 100000 in
set_option maxHeartbeats 4000000 in
theorem rdivides_any (p n k : Nat) (vd vl : Value) (D L : Nat → Nat) (w : World) (hd : IntsAt w vd (nl D n)) (hl : IntsAt w vl (nl L k)) (hp : 2 ≤ p) (hp2 : p ≤ 64) (hn1 : 1 ≤ n) (hnk : n ≤ k) (hk : k ≤ 6) (hD : ∀ j, j < n → D j < p) (hL : ∀ j, j < k → L j < p) :
    Calls Tryd.prog 53 #[vd, vl, .int .i64 p] w fun e w' => e = .returned (.bool (divB p n k D (topF k L))) ∧ Below w.heap.size w w' := by
  have hp0 : ¬ p = 0 := by omega
  obtain ⟨da, dc, rfl, _, _, _, d3⟩ := id hd
  obtain ⟨la, lc, rfl, _, _, _, _⟩ := id hl
  have HX := Lib.hid d3
  have HLl := Lib.hid hl
  rw [nl_len] at HX
  rw [nl_len] at HLl
  have hlb := hl.below (below_box w (.cells #[] 3))
  have HLb := Lib.hid hlb
  have hAl : ∀ s j, divF p n k D (topF k L) s j < p := divF_lt (by omega) (fun j => topF_lt hp (fun j hj => hL j hj) j)
  have HAl := Lib.hid hAl
  have HD := Lib.hid hD
  have HK1 : Hid (nl L k ++ [((1 : Nat) : Int)] = nl (topF k L) (k + 1)) := by
    show _ = _
    rw [nl_snoc]
    have e1 : topF k L k = 1 := by unfold topF; rw [if_neg (by omega), if_pos rfl]
    rw [e1, nl_congr (f := topF k L) (g := L) (fun j hj => by unfold topF; rw [if_pos hj])]
  have hk0 : 0 < (nl L k).length := by rw [nl_len]; omega
  have hk9 : (nl L k).length < 1000000000 := by rw [nl_len]; omega
  have hk9b : Hid ((nl L k).length < 1000000000) := hk9
  have hk0b : Hid (0 < (nl L k).length) := hk0
  rw [nl_len, nl_len]
  clear d3 hd hl hlb hAl hD hL hk0 hk9
  go_enter Tryd.func53, Tryd.ntmps53
  go_wp2_with (first
    | (at_builtin; refine app_whole (o := ⟨some 18, _, _, _, _, _⟩) (ys := nl L k) (q := la) (c := lc) rfl _ _ rfl rfl HLb.out (by rw [nl_len]; rfl) hk0b.out hk9b.out ?_; intro u w1 hown hgrow
       have HB1 := Lib.hid ((below_box w (.cells #[] 3)).trans (below_grown (v := .slice none 0 0) hgrow (B := w.heap.size) (by intro k hk; cases hk) (by simp)))
       have HO1 := Lib.hid (hown.base (base' := w.heap.size) (by simp))
       obtain ⟨ua, ul, uc, rfl⟩ := hown.shape
       clear hown hgrow)
    | (at_builtin; refine app_own (o := ⟨some 21, _, _, _, _, _⟩) rfl _ _ rfl rfl (HO1.out.alloc _) _ _ rfl (by rw [World.cell?_alloc_new]; rfl) hk9b.out (by rw [World.size_alloc]; exact Nat.le_succ_of_le HB1.out.size) ?_; intro u2 w2 hown2 hgrow2
       have HB2 := Lib.hid ((HB1.out.alloc HB1.out.size _).trans (below_grown hgrow2 (B := w.heap.size) (fun q hq => (HO1.out.block q hq).1) (by rw [World.size_alloc]; exact Nat.le_succ_of_le HB1.out.size)))
       have HO2 : Hid (Own w2 w.heap.size 3 u2 (nl (topF k L) (k + 1))) := (by show Own _ _ _ _ _; rw [← HK1.out]; exact hown2)
       clear hown2 hgrow2))
  have hsh : ∃ g c, u2 = .slice (some ⟨g, 0, none⟩) (k + 1) c := by
    rcases HO2.out.2 with ⟨_, h0⟩ | ⟨g, cap, cur, e, _⟩
    · rw [nl_len] at h0; omega
    · rw [nl_len] at e; exact ⟨g, cap, e⟩
  obtain ⟨g, gc, rfl⟩ := hsh
  have HR0 : Hid (RowRel w w2 w.heap.size g (k + 1) gc (divF p n k D (topF k L) 0)) := ⟨HB2.out, Nat.le_refl _, HO2.out⟩
  clear HB1 HO1 HB2 HO2
  go_loopw [10, 11, 12] (fun u _ _ wr => ∃ s T : Nat, T + s = k ∧ n ≤ T + 1 ∧ u = .int .i64 T ∧ RowRel w wr w.heap.size g (k + 1) gc (divF p n k D (topF k L) s)) (fun u _ _ _ => (intOf u).toNat)
  case atStart => exact ⟨0, k, by omega, by omega, rfl, HR0.out⟩
  case round =>
    clear HR0
    obtain ⟨s, T, hT, hnT, rfl, hR⟩ := hrel
    have HR := Lib.hid hR; clear hR
    have HTs := Lib.hid hT
    by_cases hlt : n ≤ T
    · obtain ⟨t, ht⟩ : ∃ t, t = T - n := ⟨_, rfl⟩
      have hT6 : T ≤ 6 := by omega
      obtain ⟨A, hAe⟩ : ∃ A, A = divF p n k D (topF k L) s := ⟨_, rfl⟩
      have hAl := HAl.out s
      rw [← hAe] at hAl HR
      have HA := Lib.hid hAl
      have HAe := Lib.hid hAe
      have hTk : (T : Int) < (k : Int) + 1 := by omega
      have hTk2 : T < k + 1 := by omega
      obtain ⟨c1, c2⟩ := HR.out.cell hTk2
      have hcT := hAl T
      have HTt : Hid (t + n = T) := by show _ = _; omega
      have HR1 : Hid (RowRel w (wr.setCell ⟨g, T, none⟩ (.int .i64 0)) w.heap.size g (k + 1) gc (inR p n t D A 0)) := (HR.out.put hTk2 0).congr fun j _ => by rw [← HTt.out]; exact inR_zero p n t D A j
      clear hAl hAe hT HR
      go_wp2_with fail
      clear c1 c2
      obtain ⟨C, hC⟩ : ∃ C, C = A T := ⟨_, rfl⟩
      have HC := Lib.hid hC
      rw [← hC] at hcT
      rw [← hC]
      clear hC
      go_loopw [12] (fun u wr => ∃ i : Nat, i ≤ n ∧ u = .int .i64 i ∧ RowRel w wr w.heap.size g (k + 1) gc (inR p n t D A i)) (fun u _ => n + 1 - (intOf u).toNat)
      case atStart => exact ⟨0, by omega, rfl, HR1.out⟩
      case round =>
        clear HR1
        obtain ⟨i, hi, rfl, hR⟩ := hrel
        have HR := Lib.hid hR; clear hR
        by_cases hin : i < n
        · obtain ⟨q, hq⟩ : ∃ q, q = t + i := ⟨_, rfl⟩
          have hqk : q < k + 1 := by omega
          obtain ⟨c1, c2⟩ := HR.out.cell hqk
          rw [hq, inR_at hin, ← hq] at c1
          obtain ⟨b, o, rfl, hb, hc⟩ := HX.out i hin
          have c3 := hc i hin
          rw [nl_ix D hin, ← HR.out.bel.cell (p := ⟨b, o + i, none⟩) hb] at c3
          clear hc
          have hy := HD.out i hin
          have hx := HA.out q
          obtain ⟨Z, v0, z1, z2, z3, v1, v2, v3, v4, v5, v6⟩ := rem_vals hp hp2 hcT hx hy
          have hput := HR.out.put hqk ((A q + (p - C) * D i) % p)
          have HPut : Hid (RowRel w (wr.setCell ⟨g, q, none⟩ (.int .i64 (((A q + (p - C) * D i) % p : Nat) : Int))) w.heap.size g (k + 1) gc (inR p n t D A (i + 1))) :=
            hput.congr fun j _ => by rw [← inR_next, HTt.out, ← HC.out, ← hq]
          have HV5 := Lib.hid v5
          have hqi : (q : Int) < (k : Int) + 1 := by omega
          have hii : (i : Int) < (n : Int) := by omega
          have hm : C * D i ≤ 64 * 64 := Nat.mul_le_mul (by omega) (by omega)
          have hr : (A q + (p - C) * D i) % p < p := Nat.mod_lt _ (by omega)
          clear hput v5
          generalize (A q + (p - C) * D i) % p = R at *
          generalize C * D i = M at *
          generalize D i = Y at *
          generalize A q = X at *
          rw [ht] at hq
          subst hq
          go_wp2_with fail
          go_region
          all_goals
            have HP2 := Lib.hid (HPut.out.drewN 1)
            clear c1 c2 c3 v0 v1 v2 v3 v4 v6
            go_wp2_with fail
            go_roundw
            case rel => exact ⟨i + 1, by omega, by go_num, HP2.out⟩
            case measure => simp [intOf]; omega
        · obtain rfl : i = n := by omega
          have HR2 : Hid (RowRel w wr w.heap.size g (k + 1) gc (divF p i k D (topF k L) (s + 1))) := HR.out.congr fun j _ => by
            rw [divF, ← HAe.out, inR_last]
            congr 1
            have := HTs.out
            omega
          clear HR
          go_wp2_with fail
          go_roundw
          case rel =>
            have hTs := HTs.out
            exact ⟨s + 1, T - 1, by omega, by omega, by rw [Int.ofNat_sub (show 1 ≤ T by omega)]; rfl, HR2.out⟩
          case measure => simp [intOf]; omega
    · have HR2 : Hid (RowRel w wr w.heap.size g (k + 1) gc (divF p n k D (topF k L) (k + 1 - n))) := by
        have : s = k + 1 - n := by have := HTs.out; omega
        rw [← this]; exact HR.out
      have HDB : Hid (divB p n k D (topF k L) = (List.range (k + 1)).all fun j => divF p n k D (topF k L) (k + 1 - n) j == 0) := rfl
      clear HR hT
      generalize divF p n k D (topF k L) (k + 1 - n) = F at *
      go_wp2_with fail
      go_loop [13] (fun u => ∃ j : Nat, j ≤ k + 1 ∧ u = .int .i64 j ∧ ∀ i, i < j → F i = 0) (fun u => k + 2 - (intOf u).toNat)
      case atStart => exact ⟨0, by omega, rfl, fun i h => by omega⟩
      case round =>
        obtain ⟨j, hj, rfl, hz⟩ := hrel
        have HZ := Lib.hid hz
        clear hz
        by_cases hjk : j < k + 1
        · have c1 := (HR2.out.cell hjk).1
          have hji : (j : Int) < (k : Int) + 1 := by omega
          by_cases hz : F j = 0
          · have HZj := Lib.hid hz
            have e1 : (((F j : Nat) : Int) != 0) = false := by simp [hz]
            clear hz
            go_wp2_with fail
            go_round
            case rel => exact ⟨j + 1, by omega, by go_num, fun i hi => by
              by_cases e : i = j
              · subst e; exact HZj.out
              · exact HZ.out i (by omega)⟩
            case measure => simp [intOf]; omega
          · have HZj := Lib.hid hz
            have e1 : (((F j : Nat) : Int) != 0) = true := by simp [hz]
            have HF : Hid (divB p n k D (topF k L) = false) := by
              show _ = _
              rw [HDB.out, List.all_eq_false]; exact ⟨j, List.mem_range.2 hjk, by simpa using hz⟩
            clear hz
            go_wp2_with fail
            go_ret
            exact ⟨ret_bool HF.out.symm, HR2.out.bel⟩
        · obtain rfl : j = k + 1 := by omega
          have HF : Hid (divB p n k D (topF k L) = true) := by
            show _ = _
            rw [HDB.out, List.all_eq_true]; exact fun i hi => by simpa using HZ.out i (List.mem_range.1 hi)
          go_wp2_with fail
          go_ret
          exact ⟨ret_bool HF.out.symm, HR2.out.bel⟩
end Go.Proofs.YtdbfpdhcaiiiaaaDoor
