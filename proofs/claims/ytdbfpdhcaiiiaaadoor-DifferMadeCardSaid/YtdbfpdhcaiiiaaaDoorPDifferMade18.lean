/-
  Contract: field.irreducible. No condition.
-/
import Derived.Test.YtdbfpdhcaiiiaaaDoorPDifferMade17
namespace Go.Proofs.YtdbfpdhcaiiiaaaDoor
open Go.RowKit

/-- A polynomial of degree n in seven cells. -/
def monF (n : Nat) (f : Nat → Nat) (j : Nat) : Nat := if j = n then 1 else f j
theorem divF_congr {p n k : Nat} {d e a : Nat → Nat} (h : ∀ j, j < n → d j = e j) : ∀ s, divF p n k d a s = divF p n k e a s
  | 0 => rfl
  | s + 1 => by
    rw [divF, divF, divF_congr h s]
    funext j
    unfold redF
    by_cases hc : k - s - n ≤ j ∧ j < k - s - n + n
    · rw [if_pos hc, if_pos hc, h _ (by omega)]
    · rw [if_neg hc, if_neg hc]
theorem divB_congr {p n k : Nat} {d e a : Nat → Nat} (h : ∀ j, j < n → d j = e j) : divB p n k d a = divB p n k e a := by
  unfold divB; rw [divF_congr h]
theorem divB_mon (p n k : Nat) (f a : Nat → Nat) : divB p n k (monF n f) a = divB p n k f a := divB_congr fun j hj => by unfold monF; rw [if_neg (by omega)]
theorem fV_mon (n : Nat) (f : Nat → Nat) : (fun i => if i = n then 1 else f i) = monF n f := rfl

theorem poly_set {w : World} {X : Array Value} {f g : Nat → Nat} {t : TypeId} {k : Nat} (hX : X = (rowOf 7 fun j => ((f j : Nat) : Int)).toArray) (hk : k < 7) (hg : ∀ j, j < 7 → (if j = k then 1 else f j) = g j) :
    PolyAt (w.alloc (.cells (X.setIfInBounds k (.int .i64 1)) t)) w.heap.size g := by
  refine ⟨by simp, fun j hj => ⟨?_, World.frozen?_alloc_new _ _ _ _⟩⟩
  rw [World.cell?_alloc_new, hX, Array.getElem?_setIfInBounds]
  have := hg j hj
  by_cases e : k = j
  · subst e
    rw [if_pos rfl] at this
    rw [if_pos rfl, if_pos (by simp [rowOf, hk])]
    show some (Value.int .i64 1) = some (.int .i64 ((g k : Nat) : Int))
    rw [← this]; rfl
  · rw [if_neg (fun h => e h.symm)] at this
    rw [if_neg e]
    show _ = some (Value.int .i64 ((g j : Nat) : Int))
    rw [← this]
    simp [rowOf, hj]
/-- What irreducible holds: its own copy of low. -/
structure IrrRel (w wr : World) (a : Nat → Nat) : Prop where
  bel : Below w.heap.size w wr
  ar : PolyAt wr w.heap.size a
theorem IrrRel.step {w wr W : World} {a : Nat → Nat} (h : IrrRel w wr a) (hb : Below wr.heap.size wr W) : IrrRel w W a := ⟨belowTrans h.bel hb, Arr.below h.ar hb⟩
theorem pow_small {p n k : Nat} (hp : 2 ≤ p) (hn : 2 * n ≤ k) (h : p ^ k ≤ 64) : p ^ n ≤ 8 := by
  have h1 : p ^ n * p ^ n ≤ 64 := by
    rw [← Nat.pow_add]
    exact Nat.le_trans (Nat.pow_le_pow_right (by omega) (by omega)) h
  refine Classical.byContradiction fun hc => ?_
  have := Nat.mul_le_mul (show 9 ≤ p ^ n by omega) (show 9 ≤ p ^ n by omega)
  omega

set_option maxRecDepth 100000 in
set_option maxHeartbeats 2000000 in
theorem irreducible_any (p k : Nat) (low : Nat → Nat) (w : World) (hp : 2 ≤ p) (hp2 : p ≤ 64) (hk1 : 1 ≤ k) (hk : k ≤ 6) (hq : p ^ k ≤ 64) (hl : ∀ j, low j < p) (hl0 : ∀ j, k ≤ j → low j = 0) :
    Calls Tryd.prog 84 #[.int .i64 p, .int .i64 k, fV low] w fun e w' => e = .returned (.bool (irrB p k low)) ∧ Below w.heap.size w w' := by
  obtain ⟨X, hX⟩ : ∃ X, X = (rowOf 7 fun j => ((low j : Nat) : Int)).toArray := ⟨_, rfl⟩
  have hbox := poly_box (w := w) (t := 89) hX
  have hB : IrrRel w (w.alloc (.cells (X.setIfInBounds k (.int .i64 1)) 89)) (topF k low) :=
    ⟨below_box w _, poly_set hX (show k < 7 by omega) fun j _ => by
      unfold topF
      by_cases e : j = k
      · subst e; rw [if_pos rfl, if_neg (by omega), if_pos rfl]
      · rw [if_neg e]
        by_cases e2 : j < k
        · rw [if_pos e2]
        · rw [if_neg e2, if_neg e, hl0 j (by omega)]⟩
  have HB := Lib.hid hB
  have HL := Lib.hid (fun j => topF_lt (k := k) hp (fun j _ => hl j) j)
  have HT0 : Hid (∀ j, k < j → topF k low j = 0) := fun j hj => by unfold topF; rw [if_neg (by omega), if_neg (by omega)]
  obtain ⟨c1, c2⟩ := hbox.old (show k < 7 by omega)
  have hk7 : (k : Int) < 7 := by omega
  have HQ := Lib.hid hq
  have HI : Hid (irrB p k low = noDivs p k (topF k low) (k / 2)) := rfl
  clear hbox hB hl hl0 hq
  show Calls Tryd.prog 84 #[.int .i64 p, .int .i64 k, .agg (rowOf 7 fun j => ((low j : Nat) : Int)).toArray] w fun e w' => e = .returned (.bool (irrB p k low)) ∧ Below w.heap.size w w'
  rw [← hX]
  clear hX
  go_enter Tryd.func84, Tryd.ntmps84
  go_wp2_with fail
  clear c1 c2
  go_loopw [7, 8, 9, 10, 19, 20, 26, 27] (fun u _ _ _ _ _ _ _ wr => ∃ n : Nat, n ≤ k / 2 ∧ u = .int .i64 ((n + 1 : Nat) : Int) ∧ noDivs p k (topF k low) n = true ∧ IrrRel w wr (topF k low)) (fun u _ _ _ _ _ _ _ _ => k - (intOf u).toNat)
  case atStart => exact ⟨0, by omega, rfl, by simp [noDivs], HB.out⟩
  case round =>
    clear HB
    obtain ⟨n, hn, rfl, hno, hR⟩ := hrel
    have HR := Lib.hid hR; have HN := Lib.hid hno
    clear hR hno
    by_cases hlt : n < k / 2
    · have HP8 := Lib.hid (pow_small hp (show 2 * (n + 1) ≤ k by omega) HQ.out)
      have hn3 : n + 1 ≤ 3 := by omega
      go_wp2_with fail
      go_loop [8, 20] (fun s i => ∃ q m : Nat, q ≤ n + 1 ∧ i = .int .i64 q ∧ s = .int .i64 m ∧ m = p ^ q) (fun _ i => n + 1 - (intOf i).toNat)
      case atStart => exact ⟨0, 1, by omega, rfl, rfl, by simp⟩
      case round =>
        obtain ⟨q, m, hq, rfl, rfl, hm⟩ := hrel
        have HM := Lib.hid hm
        clear hm
        by_cases hqn : q < n + 1
        · have hm8 : m ≤ 64 := by
            have h1 : p ^ q ≤ p ^ (n + 1) := Nat.pow_le_pow_right (by omega) (by omega)
            have := HP8.out; have := HM.out; omega
          have hmp : m * p ≤ 64 * 64 := Nat.mul_le_mul hm8 hp2
          have hv := mul_val (q := m) (p := p) (by omega)
          have HN2 : Hid (m * p = p ^ (q + 1)) := by show _ = _; rw [Nat.pow_succ, HM.out]
          obtain ⟨r, hr⟩ : ∃ r, r = m * p := ⟨_, rfl⟩
          rw [← hr] at hv hmp HN2
          clear hr
          go_wp2_with fail
          go_round
          case rel => exact ⟨q + 1, r, by omega, by go_num, by first | exact hv | rfl, HN2.out⟩
          case measure => simp [intOf]; omega
        · obtain rfl : q = n + 1 := by omega
          have hm8 : m ≤ 8 := by have := HP8.out; have := HM.out; omega
          go_wp2_with fail
          go_loopw [9, 10, 27] (fun _ _ u wr => ∃ c : Nat, c ≤ m ∧ u = .int .i64 c ∧ noDiv p (n + 1) k (topF k low) c = true ∧ IrrRel w wr (topF k low)) (fun _ _ u _ => m - (intOf u).toNat)
          case atStart => exact ⟨0, by omega, rfl, by simp [noDiv], HR.out⟩
          case round =>
            clear HR
            obtain ⟨c, hc, rfl, hno, hR⟩ := hrel
            have HR := Lib.hid hR; have HC := Lib.hid hno
            clear hR hno
            by_cases hcm : c < m
            · have HM2 : Hid (m = p ^ (n + 1)) := HM
              have HDv : Hid (∀ W, Calls Tryd.prog 92 #[.int .i64 p, fV (monF (n + 1) (dF p c)), .int .i64 ((n : Int) + 1), fV (topF k low), .int .i64 k] W fun e w' => e = .returned (.bool (divB p (n + 1) k (dF p c) (topF k low))) ∧ Below W.heap.size W w') := fun W => by
                have h := divides_any p (n + 1) k (monF (n + 1) (dF p c)) (topF k low) W hp hp2 (by omega) (by omega) hk (by unfold monF; rw [if_pos rfl]) (fun j => by
                  unfold monF
                  have := dF_lt (p := p) (n := c) (j := j) (by omega)
                  split <;> omega) HL.out HT0.out
                rw [divB_mon] at h
                exact h
              go_wp2_with fail
              refine (digits_any p c wr hp hp2 (by omega)).mono ?_
              rintro e w1 ⟨rfl, hb1⟩
              have HR1 := Lib.hid (HR.out.step hb1)
              obtain ⟨V, q1, q2, q3, q4, q5, q6⟩ := Nums.stores (P := Tryd.prog) (poly_new w1) (fun j => ((dF p c j : Nat) : Int))
              have Q2 := Lib.hid q2
              have hbV : Below w1.heap.size w1 V := (below_box w1 _).trans (q6 _ (Nat.le_refl _))
              have HRV := Lib.hid ((HR1.out.step hbV))
              have hz1 : w.heap.size < w1.heap.size := HR1.out.ar.lt
              obtain ⟨c1, c2⟩ := PolyAt.old q2 (show n + 1 < 7 by omega)
              have hn7 : (n : Int) + 1 < 7 := by omega
              have hm3 : PolyAt (V.setCell ⟨w1.heap.size, n + 1, none⟩ (.int .i64 1)) w1.heap.size (monF (n + 1) (dF p c)) := PolyAt.set q2 (show n + 1 < 7 by omega) 1
              have HM3 := Lib.hid hm3
              have HR3 := Lib.hid (show IrrRel w (V.setCell ⟨w1.heap.size, n + 1, none⟩ (.int .i64 1)) (topF k low) from
                ⟨HRV.out.bel.setCell (Nat.le_of_lt hz1) _, Arr.setOther HRV.out.ar (by show w1.heap.size ≠ w.heap.size; omega) _⟩)
              clear hm3 q2 q3 q4 q5 q6 hb1 hbV
              unfold fV
              obtain ⟨W, hW⟩ : ∃ W, W = V.setCell ⟨w1.heap.size, n + 1, none⟩ (.int .i64 1) := ⟨_, rfl⟩
              rw [← hW] at HM3 HR3
              have HW := Lib.hid hW
              clear hW
              cases eb : divB p (n + 1) k (dF p c) (topF k low)
              all_goals
                have HEB := Lib.hid eb
                rw [eb] at HDv
                clear eb
                go_wp2_with (first | (with_reducible refine wpList_load_tab rfl 89 _ rfl _ rfl (HW.out ▸ HM3.out) Tryd.underlying89 rfl (by kernel_rfl) ?_) | (with_reducible refine wpList_load_tab rfl 89 _ rfl _ rfl (HW.out ▸ HR3.out.ar) Tryd.underlying89 rfl (by kernel_rfl) ?_) | (go_at_call 92; refine (HDv.out _).mono ?_; rintro e w2 ⟨rfl, hb2⟩))
              · have HR4 := Lib.hid (HR3.out.step (W := w2) (by rw [HW.out]; exact hb2))
                clear hb2
                go_roundw
                case rel => exact ⟨c + 1, by omega, by go_num, by rw [noDiv_succ, HC.out, HEB.out]; rfl, HR4.out⟩
                case measure => simp [intOf]; omega
              · have HR4 := Lib.hid (HR3.out.step (W := w2) (by rw [HW.out]; exact hb2))
                clear hb2
                have HF : Hid (irrB p k low = false) := by
                  show _ = _
                  rw [HI.out]
                  exact noDivs_hit hlt (noDiv_hit (c := c) (by rw [← HM2.out]; exact hcm) HEB.out)
                go_ret
                exact ⟨ret_bool HF.out.symm, HR4.out.bel⟩
            · obtain rfl : c = m := by omega
              have HN2 : Hid (noDivs p k (topF k low) (n + 1) = true) := by
                show _ = _
                have h := HC.out
                rw [HM.out] at h
                rw [noDivs_succ, HN.out, h]; rfl
              have hw2 : IntKind.i64.wrap ((n : Int) + 1 + 1) = (n : Int) + 1 + 1 := IntWalk.i64_in _ (by omega)
              go_wp2_with fail
              go_roundw
              case rel => exact ⟨n + 1, by omega, by first | rfl | go_num, HN2.out, HR.out⟩
              case measure => simp [intOf]; omega
    · obtain rfl : n = k / 2 := by omega
      go_wp2_with fail
      go_ret
      exact ⟨ret_bool (HI.out.trans HN.out).symm, HR.out.bel⟩
end Go.Proofs.YtdbfpdhcaiiiaaaDoor
