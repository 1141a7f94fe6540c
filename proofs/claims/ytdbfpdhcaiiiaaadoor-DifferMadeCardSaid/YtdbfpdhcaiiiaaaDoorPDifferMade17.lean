/-
  Contract: field.divides. No condition.
-/
import Derived.Test.YtdbfpdhcaiiiaaaDoorPDifferMade16
import Derived.Test.YtdbfpdhcaiiiaaaDoorPDifferMade13
namespace Go.Proofs.YtdbfpdhcaiiiaaaDoor
open Go.RowKit

/-- A step of division behind i of its places. -/
def inF (p n t : Nat) (d A : Nat → Nat) (i j : Nat) : Nat := if t ≤ j ∧ j < t + i then (A j + (p - A (t + n)) * d (j - t)) % p else A j
theorem inF_zero (p n t : Nat) (d A : Nat → Nat) (j : Nat) : inF p n t d A 0 j = A j := by unfold inF; rw [if_neg (by omega)]
theorem inF_at (p n t : Nat) (d A : Nat → Nat) (i : Nat) : inF p n t d A i (t + i) = A (t + i) := by unfold inF; rw [if_neg (by omega)]
theorem inF_next (p n t : Nat) (d A : Nat → Nat) (i j : Nat) : (if j = t + i then (A (t + i) + (p - A (t + n)) * d i) % p else inF p n t d A i j) = inF p n t d A (i + 1) j := by
  unfold inF
  by_cases e : j = t + i
  · subst e; rw [if_pos rfl, if_pos (by omega), Nat.add_sub_cancel_left]
  · rw [if_neg e]
    by_cases e2 : t ≤ j ∧ j < t + i
    · rw [if_pos e2, if_pos (by omega)]
    · rw [if_neg e2, if_neg (by omega)]
theorem inF_last {p n t : Nat} {d A : Nat → Nat} (hd : d n = 1) (hA : A (t + n) < p) (j : Nat) : inF p n t d A (n + 1) j = redF p n t d A j := by
  unfold inF redF
  by_cases e : j = t + n
  · subst e
    rw [if_pos (by omega), if_neg (by omega), if_pos rfl, Nat.add_sub_cancel_left, hd, Nat.mul_one, Nat.add_sub_cancel' (by omega), Nat.mod_self]
  · by_cases e2 : t ≤ j ∧ j < t + n
    · rw [if_pos (by omega), if_pos e2]
    · rw [if_neg (by omega), if_neg e2, if_neg e]

theorem poly_box {w : World} {X : Array Value} {f : Nat → Nat} {t : TypeId} (hX : X = (rowOf 7 fun j => ((f j : Nat) : Int)).toArray) : PolyAt (w.alloc (.cells X t)) w.heap.size f := by
  refine ⟨by simp, fun j hj => ⟨?_, World.frozen?_alloc_new _ _ _ _⟩⟩
  rw [World.cell?_alloc_new, hX]
  simp [rowOf, hj]
theorem divF_far {p n k : Nat} {d a : Nat → Nat} (hn : n ≤ k) : ∀ s, s ≤ k + 1 - n → ∀ j, k < j → divF p n k d a s j = a j
  | 0, _, _, _ => rfl
  | s + 1, hs, j, hj => by
    rw [divF]; unfold redF
    rw [if_neg (by omega), if_neg (by omega), divF_far hn s (by omega) j hj]
theorem divB_seven {p n k : Nat} {d a : Nat → Nat} (hk : k ≤ 6) (hn : n ≤ k) (h0 : ∀ j, k < j → a j = 0) : divB p n k d a = (List.range 7).all fun j => ((divF p n k d a (k + 1 - n) j : Nat) : Int) == 0 := by
  unfold divB
  rw [Bool.eq_iff_iff, List.all_eq_true, List.all_eq_true]
  constructor
  · intro h j hj
    by_cases e : j < k + 1
    · have := h j (List.mem_range.2 e); simp at this ⊢; exact this
    · rw [divF_far hn _ (Nat.le_refl _) j (by omega), h0 j (by omega)]; rfl
  · intro h j hj
    have := h j (List.mem_range.2 (by have := List.mem_range.1 hj; omega))
    simp at this ⊢; exact this
/-- What divides holds. -/
structure DivRel (w wr : World) (d A : Nat → Nat) : Prop where
  bel : Below w.heap.size w wr
  dv : PolyAt wr w.heap.size d
  ar : PolyAt wr (w.heap.size + 1) A
theorem div_start (w : World) {X Y : Array Value} {d A : Nat → Nat} {t t' : TypeId} (hX : X = (rowOf 7 fun j => ((d j : Nat) : Int)).toArray) (hY : Y = (rowOf 7 fun j => ((A j : Nat) : Int)).toArray) :
    DivRel w ((w.alloc (.cells X t)).alloc (.cells Y t')) d A := by
  refine ⟨belowTrans (below_box _ _) (below_box _ _), Arr.alloc (poly_box hX) _, ?_⟩
  have := poly_box (w := w.alloc (.cells X t)) (t := t') hY
  rw [World.size_alloc] at this
  exact this
theorem DivRel.put {w wr : World} {d A : Nat → Nat} (h : DivRel w wr d A) {j : Nat} (hj : j < 7) (x : Nat) : DivRel w (wr.setCell ⟨w.heap.size + 1, j, none⟩ (.int .i64 (x : Int))) d (fun i => if i = j then x else A i) :=
  ⟨h.bel.setCell (Nat.le_succ _) _, Arr.setOther h.dv (by simp) _, h.ar.set hj x⟩
theorem DivRel.drewN {w wr : World} {d A : Nat → Nat} (h : DivRel w wr d A) (m : Nat) : DivRel w (wr.drewN m) d A := ⟨below_drewN h.bel m, Arr.drewN h.dv m, Arr.drewN h.ar m⟩
theorem DivRel.drew {w wr : World} {d A : Nat → Nat} (h : DivRel w wr d A) : DivRel w wr.drew d A := ⟨h.bel.drew, Arr.drew h.dv, Arr.drew h.ar⟩
theorem DivRel.congr {w wr : World} {d A B : Nat → Nat} (h : DivRel w wr d A) (e : ∀ j, j < 7 → A j = B j) : DivRel w wr d B := ⟨h.bel, h.dv, h.ar.congr e⟩
theorem step_vals {p c x y : Nat} (hp : p ≤ 64) (hc : c < p) (hx : x < p) (hy : y ≤ 64) :
    IntKind.i64.wrap ((p : Int) - (c : Int)) = ((p - c : Nat) : Int) ∧ IntKind.i64.wrap (((p - c : Nat) : Int) * (y : Int)) = (((p - c) * y : Nat) : Int) ∧
    IntKind.i64.wrap ((x : Int) + (((p - c) * y : Nat) : Int)) = ((x + (p - c) * y : Nat) : Int) ∧ IntKind.i64.wrap (((x + (p - c) * y : Nat) : Int).tmod (p : Int)) = (((x + (p - c) * y) % p : Nat) : Int) := by
  have h1 : (p - c) * y ≤ 64 * 64 := Nat.mul_le_mul (by omega) hy
  have h2 : (x + (p - c) * y) % p < p := Nat.mod_lt _ (by omega)
  refine ⟨?_, ?_, ?_, ?_⟩
  · rw [show (p : Int) - (c : Int) = ((p - c : Nat) : Int) by omega]; exact IntWalk.i64_in _ (by omega)
  · rw [← Int.natCast_mul]; exact IntWalk.i64_in _ (by omega)
  · rw [← Int.natCast_add]; exact IntWalk.i64_in _ (by omega)
  · rw [← Int.ofNat_tmod]; exact IntWalk.i64_in _ (by omega)

set_option maxRecDepth 100000 in
set_option maxHeartbeats 2000000 in
theorem divides_any (p n k : Nat) (d a : Nat → Nat) (w : World) (hp : 2 ≤ p) (hp2 : p ≤ 64) (hn1 : 1 ≤ n) (hnk : n ≤ k) (hk : k ≤ 6) (hd : d n = 1) (hdb : ∀ j, d j ≤ 64) (ha : ∀ j, a j < p) (ha0 : ∀ j, k < j → a j = 0) :
    Calls Tryd.prog 92 #[.int .i64 p, fV d, .int .i64 n, fV a, .int .i64 k] w fun e w' => e = .returned (.bool (divB p n k d a)) ∧ Below w.heap.size w w' := by
  have hp0 : ¬ p = 0 := by omega
  obtain ⟨X, hX⟩ : ∃ X, X = (rowOf 7 fun j => ((d j : Nat) : Int)).toArray := ⟨_, rfl⟩
  obtain ⟨Y, hY⟩ : ∃ Y, Y = (rowOf 7 fun j => ((a j : Nat) : Int)).toArray := ⟨_, rfl⟩
  have HS := Lib.hid (div_start w (t := 89) (t' := 89) hX hY)
  have HD := Lib.hid hd; have HDB := Lib.hid hdb; have HA := Lib.hid ha
  have HEQ : Hid (∀ w, (Op.equalIn 10000 89 (.agg (rowOf 7 fun j => ((divF p n k d a (k + 1 - n) j : Nat) : Int)).toArray) (.agg polyZ)).run Tryd.prog w = .ok (divB p n k d a) w) := fun w => by
    have h := equal_row (P := Tryd.prog) (t := 89) (e := 3) (n := 7) (d := 9998) (i := (Tryd.prog.info? 3).get!) Tryd.underlying89 Tryd.underlying3 (by kernel_rfl) (by kernel_rfl)
      (fun j => ((divF p n k d a (k + 1 - n) j : Nat) : Int)) (fun _ => 0) w
    rw [divB_seven hk hnk ha0]
    exact h
  clear hd hdb ha ha0
  show Calls Tryd.prog 92 #[.int .i64 p, .agg (rowOf 7 fun j => ((d j : Nat) : Int)).toArray, .int .i64 n, .agg (rowOf 7 fun j => ((a j : Nat) : Int)).toArray, .int .i64 k] w fun e w' => e = .returned (.bool (divB p n k d a)) ∧ Below w.heap.size w w'
  rw [← hX, ← hY]
  clear hX hY
  go_enter Tryd.func92, Tryd.ntmps92
  go_wp2_with fail
  go_loopw [11, 12, 13, 14, 26] (fun u _ _ _ _ wr => ∃ s T : Nat, T + s = k ∧ n ≤ T + 1 ∧ u = .int .i64 T ∧ DivRel w wr d (divF p n k d a s)) (fun u _ _ _ _ _ => (intOf u).toNat)
  case atStart => exact ⟨0, k, by omega, by omega, rfl, HS.out⟩
  case round =>
    clear HS
    obtain ⟨s, T, hT, hnT, rfl, hR⟩ := hrel
    have HR := Lib.hid hR; clear hR
    have HTs := Lib.hid hT
    by_cases hlt : n ≤ T
    · obtain ⟨t, ht⟩ : ∃ t, t = T - n := ⟨_, rfl⟩
      have hT6 : T ≤ 6 := by omega
      have hAl : ∀ j, divF p n k d a s j < p := divF_lt (by omega) HA.out s
      obtain ⟨A, hAe⟩ : ∃ A, A = divF p n k d a s := ⟨_, rfl⟩
      rw [← hAe] at hAl HR
      have HAl := Lib.hid hAl
      have HAe := Lib.hid hAe
      have hT6i : (T : Int) < 7 := by omega
      obtain ⟨c1, c2⟩ := HR.out.ar.old (show T < 7 by omega)
      have hcT := hAl T
      have HTt : Hid (t + n = T) := by show _ = _; omega
      have htT : t + n ≤ 6 := by omega
      clear hAl hAe hT
      have hT1 : IntKind.i64.wrap ((T : Int) - 1) = (T : Int) - 1 := IntWalk.i64_in _ (by omega)
      go_wp2_with fail
      clear c1 c2
      go_loopw [13, 14, 26] (fun _ _ u wr => ∃ i : Nat, i ≤ n + 1 ∧ u = .int .i64 i ∧ DivRel w wr d (inF p n t d A i)) (fun _ _ u _ => n + 1 - (intOf u).toNat)
      case atStart => exact ⟨0, by omega, rfl, HR.out.congr fun j _ => (inF_zero p n t d A j).symm⟩
      case round =>
        clear HR
        obtain ⟨i, hi, rfl, hR⟩ := hrel
        have HR := Lib.hid hR; clear hR
        by_cases hin : i < n + 1
        · obtain ⟨q, hq⟩ : ∃ q, q = t + i := ⟨_, rfl⟩
          have hq7 : q < 7 := by omega
          obtain ⟨c1, c2⟩ := HR.out.ar.old hq7
          obtain ⟨c3, _⟩ := HR.out.dv.old (show i < 7 by omega)
          have hx := HAl.out q
          have hy := HDB.out i
          rw [hq, inF_at, ← hq] at c1
          have hv := step_vals hp2 hcT hx hy
          have hput := HR.out.put hq7 ((A q + (p - A T) * d i) % p)
          have HPut : Hid (DivRel w (wr.setCell ⟨w.heap.size + 1, q, none⟩ (.int .i64 (((A q + (p - A T) * d i) % p : Nat) : Int))) d (inF p n t d A (i + 1))) :=
            hput.congr fun j _ => by rw [← inF_next, HTt.out, ← hq]
          clear hput
          have hq7i : (q : Int) < 7 := by omega
          have hi7i : (i : Int) < 7 := by omega
          have hm : (p - A T) * d i ≤ 64 * 64 := Nat.mul_le_mul (by omega) hy
          have hr : (A q + (p - A T) * d i) % p < p := Nat.mod_lt _ (by omega)
          obtain ⟨v1, v2, v3, v4⟩ := hv
          have HSR : Hid (((A q + (p - A T) * d i : Nat) : Int) % (p : Int) = (((A q + (p - A T) * d i) % p : Nat) : Int)) := (Int.natCast_emod _ _).symm
          generalize (A q + (p - A T) * d i) % p = R at *
          have hm2 : A q + (p - A T) * d i ≤ 5000 := by omega
          generalize A q + (p - A T) * d i = S at *
          generalize (p - A T) * d i = M at *
          generalize p - A T = U at *
          generalize d i = Y at *
          generalize A q = Z at *
          rw [ht] at hq
          subst hq
          go_wp2_with fail
          go_region
          all_goals
            have HP2 : Hid (DivRel w ((wr.setCell ⟨w.heap.size + 1, T - n + i, none⟩ (.int .i64 ((S : Int) % (p : Int)))).drew) d (inF p n t d A (i + 1))) := by
              show DivRel _ _ _ _
              rw [HSR.out]; exact HPut.out.drew
            clear c1 c2 c3 v1 v2 v3 v4
            go_wp2_with fail
            go_roundw
            case rel => exact ⟨i + 1, by omega, by go_num, HP2.out⟩
            case measure => simp [intOf]; omega
        · obtain rfl : i = n + 1 := by omega
          have HR2 : Hid (DivRel w wr d (divF p n k d a (s + 1))) := HR.out.congr fun j _ => by
            rw [divF, ← HAe.out, inF_last HD.out (by rw [HTt.out]; exact hcT)]
            congr 1
            have := HTs.out
            omega
          clear HR
          go_wp2_with fail
          go_roundw
          case rel =>
            have hTs := HTs.out
            exact ⟨s + 1, T - 1, by omega, by omega, by rw [Int.ofNat_sub (show 1 ≤ T by omega)]; rfl, HR2.out⟩
          case measure => simp [intOf]; omega
    · have HR2 : Hid (DivRel w wr d (divF p n k d a (k + 1 - n))) := by
        have : s = k + 1 - n := by omega
        rw [← this]; exact HR.out
      clear HR
      have hEQ := HEQ.out
      go_wp2_with (with_reducible refine wpList_load_tab rfl 89 _ rfl _ rfl HR2.out.ar Tryd.underlying89 rfl (by kernel_rfl) ?_)
      go_ret
      exact ⟨rfl, HR2.out.bel⟩
end Go.Proofs.YtdbfpdhcaiiiaaaDoor
