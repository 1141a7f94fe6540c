/-
  Contract: field.irreducible. No condition.
  Contract: field.open. No condition but that the table of primes reads as it is laid.
  Contracts: the reference's Fault, Size. No condition.
-/
import Derived.Test.YtdbfpdhcaiiiaaaDoorPDifferMakes9
import Derived.Test.YtdbfpdhcaiiiaaaDoorPDifferMakes8
import Derived.Test.YtdbfpdhcaiiiaaaDoorPDifferMakes1
namespace Go.Proofs.YtdbfpdhcaiiiaaaDoor
open Go.RowKit

/-- A polynomial of degree n in seven cells. -/
def monF (n : Nat) (f : Nat → Nat) (j : Nat) : Nat := if j = n then 1 else f j
theorem divF_congr {p n k : Nat} {d e a : Nat → Nat} (h : ∀ j, j < n → d j = e j) : ∀ s, divF p n k d a s = divF p n k e a s
  | 0 => rfl
  | s + 1 => by
    rw [divF, divF, divF_congr h s]
    funext j
    unfold redF
    by_cases hc : k - s - n ≤ j ∧ j < k - s - n + n
    · rw [if_pos hc, if_pos hc, h _ (by omega)]
    · rw [if_neg hc, if_neg hc]
theorem divB_congr {p n k : Nat} {d e a : Nat → Nat} (h : ∀ j, j < n → d j = e j) : divB p n k d a = divB p n k e a := by
  unfold divB; rw [divF_congr h]
theorem divB_mon (p n k : Nat) (f a : Nat → Nat) : divB p n k (monF n f) a = divB p n k f a := divB_congr fun j hj => by unfold monF; rw [if_neg (by omega)]
theorem fV_mon (n : Nat) (f : Nat → Nat) : (fun i => if i = n then 1 else f i) = monF n f := rfl

theorem poly_set {w : World} {X : Array Value} {f g : Nat → Nat} {t : TypeId} {k : Nat} (hX : X = (rowOf 7 fun j => ((f j : Nat) : Int)).toArray) (hk : k < 7) (hg : ∀ j, j < 7 → (if j = k then 1 else f j) = g j) :
    PolyAt (w.alloc (.cells (X.setIfInBounds k (.int .i64 1)) t)) w.heap.size g := by
  refine ⟨by simp, fun j hj => ⟨?_, World.frozen?_alloc_new _ _ _ _⟩⟩
  rw [World.cell?_alloc_new, hX, Array.getElem?_setIfInBounds]
  have := hg j hj
  by_cases e : k = j
  · subst e
    rw [if_pos rfl] at this
    rw [if_pos rfl, if_pos (by simp [rowOf, hk])]
    show some (Value.int .i64 1) = some (.int .i64 ((g k : Nat) : Int))
    rw [← this]; rfl
  · rw [if_neg (fun h => e h.symm)] at this
    rw [if_neg e]
    show _ = some (Value.int .i64 ((g j : Nat) : Int))
    rw [← this]
    simp [rowOf, hj]
/-- What irreducible holds: its own copy of low. -/
structure IrrRel (w wr : World) (a : Nat → Nat) : Prop where
  bel : Below w.heap.size w wr
  ar : PolyAt wr w.heap.size a
theorem IrrRel.step {w wr W : World} {a : Nat → Nat} (h : IrrRel w wr a) (hb : Below wr.heap.size wr W) : IrrRel w W a := ⟨belowTrans h.bel hb, Arr.below h.ar hb⟩
theorem pow_small {p n k : Nat} (hp : 2 ≤ p) (hn : 2 * n ≤ k) (h : p ^ k ≤ 64) : p ^ n ≤ 8 := by
  have h1 : p ^ n * p ^ n ≤ 64 := by
    rw [← Nat.pow_add]
    exact Nat.le_trans (Nat.pow_le_pow_right (by omega) (by omega)) h
  refine Classical.byContradiction fun hc => ?_
  have := Nat.mul_le_mul (show 9 ≤ p ^ n by omega) (show 9 ≤ p ^ n by omega)
  omega

set_option maxRecDepth 100000 in
set_option maxHeartbeats 2000000 in
theorem irreducible_any (p k : Nat) (low : Nat → Nat) (w : World) (hp : 2 ≤ p) (hp2 : p ≤ 64) (hk1 : 1 ≤ k) (hk : k ≤ 6) (hq : p ^ k ≤ 64) (hl : ∀ j, low j < p) (hl0 : ∀ j, k ≤ j → low j = 0) :
    Calls Tryd.prog 84 #[.int .i64 p, .int .i64 k, fV low] w fun e w' => e = .returned (.bool (irrB p k low)) ∧ Below w.heap.size w w' := by
  obtain ⟨X, hX⟩ : ∃ X, X = (rowOf 7 fun j => ((low j : Nat) : Int)).toArray := ⟨_, rfl⟩
  have hbox := poly_box (w := w) (t := 89) hX
  have hB : IrrRel w (w.alloc (.cells (X.setIfInBounds k (.int .i64 1)) 89)) (topF k low) :=
    ⟨below_box w _, poly_set hX (show k < 7 by omega) fun j _ => by
      unfold topF
      by_cases e : j = k
      · subst e; rw [if_pos rfl, if_neg (by omega), if_pos rfl]
      · rw [if_neg e]
        by_cases e2 : j < k
        · rw [if_pos e2]
        · rw [if_neg e2, if_neg e, hl0 j (by omega)]⟩
  have HB := Lib.hid hB
  have HL := Lib.hid (fun j => topF_lt (k := k) hp (fun j _ => hl j) j)
  have HT0 : Hid (∀ j, k < j → topF k low j = 0) := fun j hj => by unfold topF; rw [if_neg (by omega), if_neg (by omega)]
  obtain ⟨c1, c2⟩ := hbox.old (show k < 7 by omega)
  have hk7 : (k : Int) < 7 := by omega
  have HQ := Lib.hid hq
  have HI : Hid (irrB p k low = noDivs p k (topF k low) (k / 2)) := rfl
  clear hbox hB hl hl0 hq
  show Calls Tryd.prog 84 #[.int .i64 p, .int .i64 k, .agg (rowOf 7 fun j => ((low j : Nat) : Int)).toArray] w fun e w' => e = .returned (.bool (irrB p k low)) ∧ Below w.heap.size w w'
  rw [← hX]
  clear hX
  go_enter Tryd.func84, Tryd.ntmps84
  go_wp2_with fail
  clear c1 c2
  go_loopw [7, 8, 9, 10, 19, 20, 26, 27] (fun u _ _ _ _ _ _ _ wr => ∃ n : Nat, n ≤ k / 2 ∧ u = .int .i64 ((n + 1 : Nat) : Int) ∧ noDivs p k (topF k low) n = true ∧ IrrRel w wr (topF k low)) (fun u _ _ _ _ _ _ _ _ => k - (intOf u).toNat)
  case atStart => exact ⟨0, by omega, rfl, by simp [noDivs], HB.out⟩
  case round =>
    clear HB
    obtain ⟨n, hn, rfl, hno, hR⟩ := hrel
    have HR := Lib.hid hR; have HN := Lib.hid hno
    clear hR hno
    by_cases hlt : n < k / 2
    · have HP8 := Lib.hid (pow_small hp (show 2 * (n + 1) ≤ k by omega) HQ.out)
      have hn3 : n + 1 ≤ 3 := by omega
      go_wp2_with fail
      go_loop [8, 20] (fun s i => ∃ q m : Nat, q ≤ n + 1 ∧ i = .int .i64 q ∧ s = .int .i64 m ∧ m = p ^ q) (fun _ i => n + 1 - (intOf i).toNat)
      case atStart => exact ⟨0, 1, by omega, rfl, rfl, by simp⟩
      case round =>
        obtain ⟨q, m, hq, rfl, rfl, hm⟩ := hrel
        have HM := Lib.hid hm
        clear hm
        by_cases hqn : q < n + 1
        · have hm8 : m ≤ 64 := by
            have h1 : p ^ q ≤ p ^ (n + 1) := Nat.pow_le_pow_right (by omega) (by omega)
            have := HP8.out; have := HM.out; omega
          have hmp : m * p ≤ 64 * 64 := Nat.mul_le_mul hm8 hp2
          have hv := mul_val (q := m) (p := p) (by omega)
          have HN2 : Hid (m * p = p ^ (q + 1)) := by show _ = _; rw [Nat.pow_succ, HM.out]
          obtain ⟨r, hr⟩ : ∃ r, r = m * p := ⟨_, rfl⟩
          rw [← hr] at hv hmp HN2
          clear hr
          go_wp2_with fail
          go_round
          case rel => exact ⟨q + 1, r, by omega, by go_num, by first | exact hv | rfl, HN2.out⟩
          case measure => simp [intOf]; omega
        · obtain rfl : q = n + 1 := by omega
          have hm8 : m ≤ 8 := by have := HP8.out; have := HM.out; omega
          go_wp2_with fail
          go_loopw [9, 10, 27] (fun _ _ u wr => ∃ c : Nat, c ≤ m ∧ u = .int .i64 c ∧ noDiv p (n + 1) k (topF k low) c = true ∧ IrrRel w wr (topF k low)) (fun _ _ u _ => m - (intOf u).toNat)
          case atStart => exact ⟨0, by omega, rfl, by simp [noDiv], HR.out⟩
          case round =>
            clear HR
            obtain ⟨c, hc, rfl, hno, hR⟩ := hrel
            have HR := Lib.hid hR; have HC := Lib.hid hno
            clear hR hno
            by_cases hcm : c < m
            · have HM2 : Hid (m = p ^ (n + 1)) := HM
              have HDv : Hid (∀ W, Calls Tryd.prog 92 #[.int .i64 p, fV (monF (n + 1) (dF p c)), .int .i64 ((n : Int) + 1), fV (topF k low), .int .i64 k] W fun e w' => e = .returned (.bool (divB p (n + 1) k (dF p c) (topF k low))) ∧ Below W.heap.size W w') := fun W => by
                have h := divides_any p (n + 1) k (monF (n + 1) (dF p c)) (topF k low) W hp hp2 (by omega) (by omega) hk (by unfold monF; rw [if_pos rfl]) (fun j => by
                  unfold monF
                  have := dF_lt (p := p) (n := c) (j := j) (by omega)
                  split <;> omega) HL.out HT0.out
                rw [divB_mon] at h
                exact h
              go_wp2_with fail
              refine (digits_any p c wr hp hp2 (by omega)).mono ?_
              rintro e w1 ⟨rfl, hb1⟩
              have HR1 := Lib.hid (HR.out.step hb1)
              obtain ⟨V, q1, q2, q3, q4, q5, q6⟩ := Nums.stores (P := Tryd.prog) (poly_new w1) (fun j => ((dF p c j : Nat) : Int))
              have Q2 := Lib.hid q2
              have hbV : Below w1.heap.size w1 V := (below_box w1 _).trans (q6 _ (Nat.le_refl _))
              have HRV := Lib.hid ((HR1.out.step hbV))
              have hz1 : w.heap.size < w1.heap.size := HR1.out.ar.lt
              obtain ⟨c1, c2⟩ := PolyAt.old q2 (show n + 1 < 7 by omega)
              have hn7 : (n : Int) + 1 < 7 := by omega
              have hm3 : PolyAt (V.setCell ⟨w1.heap.size, n + 1, none⟩ (.int .i64 1)) w1.heap.size (monF (n + 1) (dF p c)) := PolyAt.set q2 (show n + 1 < 7 by omega) 1
              have HM3 := Lib.hid hm3
              have HR3 := Lib.hid (show IrrRel w (V.setCell ⟨w1.heap.size, n + 1, none⟩ (.int .i64 1)) (topF k low) from
                ⟨HRV.out.bel.setCell (Nat.le_of_lt hz1) _, Arr.setOther HRV.out.ar (by show w1.heap.size ≠ w.heap.size; omega) _⟩)
              clear hm3 q2 q3 q4 q5 q6 hb1 hbV
              unfold fV
              obtain ⟨W, hW⟩ : ∃ W, W = V.setCell ⟨w1.heap.size, n + 1, none⟩ (.int .i64 1) := ⟨_, rfl⟩
              rw [← hW] at HM3 HR3
              have HW := Lib.hid hW
              clear hW
              cases eb : divB p (n + 1) k (dF p c) (topF k low)
              all_goals
                have HEB := Lib.hid eb
                rw [eb] at HDv
                clear eb
                go_wp2_with (first | (with_reducible refine wpList_load_tab rfl 89 _ rfl _ rfl (HW.out ▸ HM3.out) Tryd.underlying89 rfl (by kernel_rfl) ?_) | (with_reducible refine wpList_load_tab rfl 89 _ rfl _ rfl (HW.out ▸ HR3.out.ar) Tryd.underlying89 rfl (by kernel_rfl) ?_) | (go_at_call 92; refine (HDv.out _).mono ?_; rintro e w2 ⟨rfl, hb2⟩))
              · have HR4 := Lib.hid (HR3.out.step (W := w2) (by rw [HW.out]; exact hb2))
                clear hb2
                go_roundw
                case rel => exact ⟨c + 1, by omega, by go_num, by rw [noDiv_succ, HC.out, HEB.out]; rfl, HR4.out⟩
                case measure => simp [intOf]; omega
              · have HR4 := Lib.hid (HR3.out.step (W := w2) (by rw [HW.out]; exact hb2))
                clear hb2
                have HF : Hid (irrB p k low = false) := by
                  show _ = _
                  rw [HI.out]
                  exact noDivs_hit hlt (noDiv_hit (c := c) (by rw [← HM2.out]; exact hcm) HEB.out)
                go_ret
                exact ⟨ret_bool HF.out.symm, HR4.out.bel⟩
            · obtain rfl : c = m := by omega
              have HN2 : Hid (noDivs p k (topF k low) (n + 1) = true) := by
                show _ = _
                have h := HC.out
                rw [HM.out] at h
                rw [noDivs_succ, HN.out, h]; rfl
              have hw2 : IntKind.i64.wrap ((n : Int) + 1 + 1) = (n : Int) + 1 + 1 := IntWalk.i64_in _ (by omega)
              go_wp2_with fail
              go_roundw
              case rel => exact ⟨n + 1, by omega, by first | rfl | go_num, HN2.out, HR.out⟩
              case measure => simp [intOf]; omega
    · obtain rfl : n = k / 2 := by omega
      go_wp2_with fail
      go_ret
      exact ⟨ret_bool (HI.out.trans HN.out).symm, HR.out.bel⟩
end Go.Proofs.YtdbfpdhcaiiiaaaDoor

namespace Go.Proofs.YtdbfpdhcaiiiaaaDoor
open Go.RowKit

/-- Four cells. -/
def four (a b c d : Value) (j : Nat) : Value := if j = 0 then a else if j = 1 then b else if j = 2 then c else d
theorem four_row (a b c d : Value) : ((List.range 4).map (four a b c d)).toArray = #[a, b, c, d] := rfl
theorem four_new (w : World) (a b c d : Value) (t : TypeId) : Arr (w.alloc (.cells #[a, b, c, d] t)) w.heap.size 4 (four a b c d) := by
  refine ⟨by simp, fun j hj => ⟨?_, World.frozen?_alloc_new _ _ _ _⟩⟩
  rw [World.cell?_alloc_new]
  rcases j with _ | _ | _ | _ | j
  · rfl
  · rfl
  · rfl
  · rfl
  · omega
def three (a b c : Value) (j : Nat) : Value := if j = 0 then a else if j = 1 then b else c
theorem three_new (w : World) (a b c : Value) (t : TypeId) : Arr (w.alloc (.cells #[a, b, c] t)) w.heap.size 3 (three a b c) := by
  refine ⟨by simp, fun j hj => ⟨?_, World.frozen?_alloc_new _ _ _ _⟩⟩
  rw [World.cell?_alloc_new]
  rcases j with _ | _ | _ | j
  · rfl
  · rfl
  · rfl
  · omega
theorem four_set {w : World} {b : Nat} {a0 a1 a2 a3 : Value} (h : Arr w b 4 (four a0 a1 a2 a3)) (x0 x1 x2 x3 : Value) :
    Arr ((((w.setCell ⟨b, 0, none⟩ x0).setCell ⟨b, 1, none⟩ x1).setCell ⟨b, 2, none⟩ x2).setCell ⟨b, 3, none⟩ x3) b 4 (four x0 x1 x2 x3) := by
  refine Arr.congr ((((h.set (show 0 < 4 by omega) x0).set (show 1 < 4 by omega) x1).set (show 2 < 4 by omega) x2).set (show 3 < 4 by omega) x3) fun j hj => ?_
  have : j = 0 ∨ j = 1 ∨ j = 2 ∨ j = 3 := by omega
  rcases this with rfl | rfl | rfl | rfl <;> rfl

/-- The room of a field; of none, the empty one. -/
def roomV (p d : Int) (v : Value) (q : Nat) : Value := .agg #[.int .i64 p, .int .i64 d, v, .int .i64 (q : Nat)]
def noRoom : Value := .agg #[.int .i64 0, .int .i64 0, .slice none 0 0, .int .i64 0]
def roomOf (p d : Int) (v : Value) (low : List Int) : Value := if fieldFault p d low = 0 then roomV p d v (ordQ p d) else noRoom
def OpenPost (p d : Int) (v : Value) (low : List Int) (w : World) (e : Ending) (w' : World) : Prop :=
  e = .returned (.tuple #[roomOf p d v low, .int .i64 (fieldFault p d low)]) ∧ Below w.heap.size w w'
theorem open_end {p d : Int} {v : Value} {low : List Int} {w w' : World} {f : Int} (h : fieldFault p d low = f) (hf : f ≠ 0) (hb : Below w.heap.size w w') : OpenPost p d v low w (.returned (.tuple #[noRoom, .int .i64 f])) w' := by
  refine ⟨?_, hb⟩
  unfold roomOf
  rw [h, if_neg hf]

/-- What open holds behind k digits. -/
structure OpRel (w wr : World) (p d : Int) (v : Value) (low : List Int) (k : Nat) : Prop where
  bel : Below w.heap.size w wr
  fb : Arr wr w.heap.size 3 (three (.int .i64 p) (.int .i64 d) v)
  rb : Arr wr (w.heap.size + 1) 4 (four (.int .i64 0) (.int .i64 0) (.slice none 0 0) (.int .i64 0))
  ar : PolyAt wr (w.heap.size + 2) (fun j => if j < k then lF low j else 0)
theorem op_start (w : World) (p d : Int) (v : Value) (low : List Int) :
    OpRel w (((w.alloc (.cells #[.int .i64 p, .int .i64 d, v] 24)).alloc (.cells #[.int .i64 0, .int .i64 0, .slice none 0 0, .int .i64 0] 72)).alloc (.cells polyZ 89)) p d v low 0 := by
  have hr := four_new (w.alloc (.cells #[.int .i64 p, .int .i64 d, v] 24)) (.int .i64 0) (.int .i64 0) (.slice none 0 0) (.int .i64 0) 72
  rw [World.size_alloc] at hr
  have ha := poly_new ((w.alloc (.cells #[.int .i64 p, .int .i64 d, v] 24)).alloc (.cells #[.int .i64 0, .int .i64 0, .slice none 0 0, .int .i64 0] 72))
  rw [World.size_alloc, World.size_alloc] at ha
  exact ⟨belowTrans (belowTrans (below_box _ _) (below_box _ _)) (below_box _ _), Arr.alloc (Arr.alloc (three_new w _ _ _ _) _) _, Arr.alloc hr _, PolyAt.congr ha fun j _ => by rw [if_neg (by omega)]⟩
theorem OpRel.put {w wr : World} {p d : Int} {v : Value} {low : List Int} {k : Nat} (h : OpRel w wr p d v low k) (hk : k < 7) {x : Int} (hx : x = ((lF low k : Nat) : Int)) :
    OpRel w (wr.setCell ⟨w.heap.size + 2, k, none⟩ (.int .i64 x)) p d v low (k + 1) := by
  subst hx
  refine ⟨h.bel.setCell (by show _ ≤ w.heap.size + 2; omega) _, Arr.setOther h.fb (by simp) _, Arr.setOther h.rb (by simp) _, PolyAt.congr (h.ar.set hk _) fun j _ => ?_⟩
  by_cases e : j = k
  · subst e; rw [if_pos rfl, if_pos (by omega)]
  · rw [if_neg e]
    by_cases e2 : j < k
    · rw [if_pos e2, if_pos (by omega)]
    · rw [if_neg e2, if_neg (by omega)]
theorem OpRel.step {w wr W : World} {p d : Int} {v : Value} {low : List Int} {k : Nat} (h : OpRel w wr p d v low k) (hb : Below wr.heap.size wr W) : OpRel w W p d v low k :=
  ⟨belowTrans h.bel hb, Arr.below h.fb hb, Arr.below h.rb hb, Arr.below h.ar hb⟩
theorem OpRel.drewN {w wr : World} {p d : Int} {v : Value} {low : List Int} {k : Nat} (h : OpRel w wr p d v low k) (m : Nat) : OpRel w (wr.drewN m) p d v low k := h.step (below_D _ _)
theorem OpRel.cells {w wr : World} {p d : Int} {v : Value} {low : List Int} {k : Nat} (h : OpRel w wr p d v low k) :
    (wr.cell? ⟨w.heap.size + 1, 0, none⟩ = some (.int .i64 0) ∧ wr.cell? ⟨w.heap.size + 1, 1, none⟩ = some (.int .i64 0) ∧ wr.cell? ⟨w.heap.size + 1, 2, none⟩ = some (.slice none 0 0) ∧ wr.cell? ⟨w.heap.size + 1, 3, none⟩ = some (.int .i64 0)) ∧
    (wr.frozen? ⟨w.heap.size + 1, 0, none⟩ = false ∧ wr.frozen? ⟨w.heap.size + 1, 1, none⟩ = false ∧ wr.frozen? ⟨w.heap.size + 1, 2, none⟩ = false ∧ wr.frozen? ⟨w.heap.size + 1, 3, none⟩ = false) :=
  ⟨⟨h.rb.cell (show 0 < 4 by omega), h.rb.cell (show 1 < 4 by omega), h.rb.cell (show 2 < 4 by omega), h.rb.cell (show 3 < 4 by omega)⟩, ⟨h.rb.free (show 0 < 4 by omega), h.rb.free (show 1 < 4 by omega), h.rb.free (show 2 < 4 by omega), h.rb.free (show 3 < 4 by omega)⟩⟩
theorem OpRel.fcells {w wr : World} {p d : Int} {v : Value} {low : List Int} {k : Nat} (h : OpRel w wr p d v low k) :
    wr.cell? ⟨w.heap.size, 0, none⟩ = some (.int .i64 p) ∧ wr.cell? ⟨w.heap.size, 1, none⟩ = some (.int .i64 d) ∧ wr.cell? ⟨w.heap.size, 2, none⟩ = some v :=
  ⟨h.fb.cell (show 0 < 3 by omega), h.fb.cell (show 1 < 3 by omega), h.fb.cell (show 2 < 3 by omega)⟩
theorem open_good {p d : Int} {v : Value} {low : List Int} {w w' : World} (h : fieldFault p d low = 0) (hb : Below w.heap.size w w') :
    OpenPost p d v low w (.returned (.tuple #[roomV p d v (ordQ p d), .int .i64 0])) w' := by
  refine ⟨?_, hb⟩
  unfold roomOf
  rw [h, if_pos rfl]
theorem OpRel.fin {w wr : World} {p d : Int} {v : Value} {low : List Int} {k : Nat} (h : OpRel w wr p d v low k) (x0 x1 x2 x3 : Value) :
    Below w.heap.size w ((((wr.setCell ⟨w.heap.size + 1, 0, none⟩ x0).setCell ⟨w.heap.size + 1, 1, none⟩ x1).setCell ⟨w.heap.size + 1, 2, none⟩ x2).setCell ⟨w.heap.size + 1, 3, none⟩ x3) :=
  (((h.bel.setCell (Nat.le_succ _) _).setCell (Nat.le_succ _) _).setCell (Nat.le_succ _) _).setCell (Nat.le_succ _) _
theorem outP_no {p : Nat} {x : Int} (h1 : decide (x < 0) = false) (h2 : decide ((p : Int) ≤ x) = false) : outP p x = false ∧ 0 ≤ x ∧ x < p := by
  unfold outP; simp at h1 h2 ⊢; omega
theorem any_take_hit {q : Int → Bool} {xs : List Int} {k : Nat} (hk : k < xs.length) (h : q (ix xs k) = true) : xs.any q = true := by
  rw [List.any_eq_true]; exact ⟨_, ix_mem hk, h⟩

set_option maxRecDepth 100000 in
set_option maxHeartbeats 2000000 in
theorem open_any (p d : Int) (v : Value) (low : List Int) (w : World) (h : IntsAt w v low) (hP : PrimesAt w) :
    Calls Tryd.prog 63 #[.agg #[.int .i64 p, .int .i64 d, v]] w (OpenPost p d v low w) := by
  obtain ⟨a, c, rfl, h1, h2, _, h3⟩ := id h
  have HX := Lib.hid h3
  have HI := Lib.hid h
  have HB2 := Lib.hid (belowTrans (below_box w (.cells #[.int .i64 p, .int .i64 d, .slice a low.length c] 24)) (below_box _ (.cells #[.int .i64 0, .int .i64 0, .slice none 0 0, .int .i64 0] 72)))
  have HO := Lib.hid (order_any p d _ (hP.below HB2.out))
  have hr := four_new (w.alloc (.cells #[.int .i64 p, .int .i64 d, .slice a low.length c] 24)) (.int .i64 0) (.int .i64 0) (.slice none 0 0) (.int .i64 0) 72
  rw [World.size_alloc] at hr
  have HR := Lib.hid hr
  clear h3 h hP hr
  by_cases hq : ordQ p d = 0
  · have HF : Hid (fieldFault p d low = 1) := by show _ = _; unfold fieldFault; rw [if_pos hq]
    have hb : (ordQ p d != 0) = false := by simp [hq]
    unfold OrdPost at HO
    rw [hb] at HO
    clear hb hq
    go_enter Tryd.func63, Tryd.ntmps63
    go_wp2_with (go_at_call 83; refine (HO.out).mono ?_; rintro e w' ⟨rfl, rfl⟩)
    exact bodyPost_ret (results_arrT (p := 2) (u := 3) rfl HR.out Tryd.underlying72 rfl (by kernel_rfl) rfl) rfl (open_end HF.out (by decide) HB2.out)
  · have hb : (ordQ p d != 0) = true := by simp [hq]
    unfold OrdPost at HO
    rw [hb] at HO
    obtain ⟨a1, a2, a3, a4, a5⟩ := ordQ_of hq
    have hpr := isPB_range a1
    obtain ⟨p, rfl⟩ := Int.eq_ofNat_of_zero_le (show 0 ≤ p by omega)
    obtain ⟨d, rfl⟩ := Int.eq_ofNat_of_zero_le (show 0 ≤ d by omega)
    rw [Int.toNat_natCast, Int.toNat_natCast] at a4
    have hp2 : 2 ≤ p := by omega
    have hp61 : p ≤ 61 := by omega
    have hd1 : 1 ≤ d := by omega
    have hd6 : d ≤ 6 := by omega
    have HQ := Lib.hid hq
    have HA4 := Lib.hid a4
    clear hb hq a1 a2 a3 a4 a5 hpr
    by_cases hl : low.length = d
    · have hne : (((low.length : Nat) : Int) != ((d : Nat) : Int)) = false := by simp [hl]
      have HL := Lib.hid hl
      have HF0 : Hid (fieldFault p d low = if low.any (outP p) then 1 else if irrB p d (lF low) then 0 else 4) := by
        show _ = _; unfold fieldFault; rw [if_neg HQ.out, if_neg (by simp [hl])]; simp
      have HS := Lib.hid (op_start w p d (.slice a low.length c) low)
      clear hl
      go_enter Tryd.func63, Tryd.ntmps63
      go_wp2_with (go_at_call 83; refine (HO.out).mono ?_; rintro e w' ⟨rfl, rfl⟩)
      go_loopw [7, 8, 30] (fun _ _ u wr => ∃ k : Nat, k ≤ low.length ∧ u = .int .i64 k ∧ (low.take k).any (outP p) = false ∧ OpRel w wr p d (.slice a low.length c) low k) (fun _ _ u _ => low.length - (intOf u).toNat)
      case atStart => exact ⟨0, by omega, rfl, by simp, HS.out⟩
      case round =>
        clear HS HR
        obtain ⟨k, hk, rfl, hno, hR⟩ := hrel
        have HR := Lib.hid hR; have HN := Lib.hid hno
        clear hR hno
        have f0 : wr.cell? ⟨w.heap.size, 0, none⟩ = some (.int .i64 (p : Int)) := HR.out.fb.cell (show 0 < 3 by omega)
        have f1 : wr.cell? ⟨w.heap.size, 1, none⟩ = some (.int .i64 (d : Int)) := HR.out.fb.cell (show 1 < 3 by omega)
        have f2 : wr.cell? ⟨w.heap.size, 2, none⟩ = some (.slice a low.length c) := HR.out.fb.cell (show 2 < 3 by omega)
        by_cases hlt : k < low.length
        · obtain ⟨b, o, rfl, hb, hc⟩ := HX.out k hlt
          have hcell := hc k hlt
          rw [← HR.out.bel.cell (p := ⟨b, o + k, none⟩) hb] at hcell
          clear hc
          have hk7 : k < 7 := by have := HL.out; omega
          have hk7i : (k : Int) < 7 := by omega
          obtain ⟨c1, c2⟩ := HR.out.ar.old hk7
          cases d1 : decide (ix low k < 0)
          · cases d2 : decide ((p : Int) ≤ ix low k)
            · obtain ⟨o1, o2, o3⟩ := outP_no d1 d2
              have HN2 : Hid ((low.take (k + 1)).any (outP p) = false) := by
                show _ = _; rw [take_succ_ix hlt, List.any_append, HN.out]; simp [o1]
              have HR2 := Lib.hid (HR.out.put hk7 (x := ix low k) (by unfold lF; omega))
              clear o1
              go_wp2_with fail
              go_roundw
              case rel => exact ⟨k + 1, by omega, by go_num, HN2.out, HR2.out⟩
              case measure => simp [intOf]; omega
            · have HF : Hid (fieldFault p d low = 1) := by show _ = _; rw [HF0.out, any_take_hit (q := outP p) hlt (by unfold outP; simp at d2 ⊢; omega)]; rfl
              obtain ⟨⟨r0, r1, r2, r3⟩, ⟨g0, g1, g2, g3⟩⟩ := HR.out.cells
              go_wp2_with fail
              exact bodyPost_ret (results_arrT (p := 2) (u := 3) rfl (four_set HR.out.rb _ _ _ _) Tryd.underlying72 rfl (by kernel_rfl) rfl) rfl (open_end HF.out (by decide) (HR.out.fin _ _ _ _))
          · have HF : Hid (fieldFault p d low = 1) := by show _ = _; rw [HF0.out, any_take_hit (q := outP p) hlt (by unfold outP; simp at d1 ⊢; omega)]; rfl
            obtain ⟨⟨r0, r1, r2, r3⟩, ⟨g0, g1, g2, g3⟩⟩ := HR.out.cells
            go_wp2_with fail
            exact bodyPost_ret (results_arrT (p := 2) (u := 3) rfl (four_set HR.out.rb _ _ _ _) Tryd.underlying72 rfl (by kernel_rfl) rfl) rfl (open_end HF.out (by decide) (HR.out.fin _ _ _ _))
        · obtain rfl : k = low.length := by omega
          have HA : Hid (low.any (outP p) = false) := by show _ = _; have := HN.out; rw [List.take_length] at this; exact this
          have hpa : PolyAt wr (w.heap.size + 2) (lF low) := PolyAt.congr HR.out.ar fun j _ => by
            by_cases e : j < low.length
            · rw [if_pos e]
            · rw [if_neg e]; unfold lF ix; rw [List.getD_eq_getElem?_getD, List.getElem?_eq_none (by omega)]; rfl
          have HPA := Lib.hid hpa
          have hlo : ∀ j, lF low j < p := fun j => by
            by_cases e : j < low.length
            · have := List.any_eq_false.1 HA.out _ (ix_mem e)
              unfold outP at this; unfold lF
              simp at this; omega
            · unfold lF ix; rw [List.getD_eq_getElem?_getD, List.getElem?_eq_none (by omega)]; simp; omega
          have hir := irreducible_any p d (lF low) wr hp2 (by omega) hd1 hd6 HA4.out hlo (fun j hj => by unfold lF ix; rw [List.getD_eq_getElem?_getD, List.getElem?_eq_none (by have := HL.out; omega)]; rfl)
          have HIr := Lib.hid hir
          clear hpa hlo hir
          cases ei : irrB p d (lF low)
          · have HF : Hid (fieldFault p d low = 4) := by show _ = _; rw [HF0.out, HA.out, ei]; rfl
            rw [ei] at HIr
            clear ei
            go_wp2_with (first | (with_reducible refine wpList_load_tab rfl 89 _ rfl _ rfl HPA.out Tryd.underlying89 rfl (by kernel_rfl) ?_) | (go_at_call 84; refine (HIr.out).mono ?_; rintro e w2 ⟨rfl, hb2⟩; have HR2 := Lib.hid (HR.out.step hb2); obtain ⟨⟨r0, r1, r2, r3⟩, ⟨g0, g1, g2, g3⟩⟩ := HR2.out.cells; clear hb2))
            exact bodyPost_ret (results_arrT (p := 2) (u := 3) rfl (four_set HR2.out.rb _ _ _ _) Tryd.underlying72 rfl (by kernel_rfl) rfl) rfl (open_end HF.out (by decide) (HR2.out.fin _ _ _ _))
          · have HF : Hid (fieldFault p d low = 0) := by show _ = _; rw [HF0.out, HA.out, ei]; rfl
            rw [ei] at HIr
            clear ei
            go_wp2_with (first | (with_reducible refine wpList_load_tab rfl 89 _ rfl _ rfl HPA.out Tryd.underlying89 rfl (by kernel_rfl) ?_) | (go_at_call 84; refine (HIr.out).mono ?_; rintro e w2 ⟨rfl, hb2⟩; have HR2 := Lib.hid (HR.out.step hb2); obtain ⟨⟨r0, r1, r2, r3⟩, ⟨g0, g1, g2, g3⟩⟩ := HR2.out.cells; obtain ⟨k0, k1, k2⟩ := HR2.out.fcells; clear hb2))
            exact bodyPost_ret (results_arrT (p := 2) (u := 3) rfl (four_set HR2.out.rb _ _ _ _) Tryd.underlying72 rfl (by kernel_rfl) rfl) rfl (open_good HF.out (HR2.out.fin _ _ _ _))
    · have hne : (((low.length : Nat) : Int) != ((d : Nat) : Int)) = true := by simp; omega
      have HF : Hid (fieldFault p d low = 2) := by show _ = _; unfold fieldFault; rw [if_neg HQ.out, if_pos (by omega)]
      clear hl
      go_enter Tryd.func63, Tryd.ntmps63
      go_wp2_with (go_at_call 83; refine (HO.out).mono ?_; rintro e w' ⟨rfl, rfl⟩)
      exact bodyPost_ret (results_arrT (p := 2) (u := 3) rfl HR.out Tryd.underlying72 rfl (by kernel_rfl) rfl) rfl (open_end HF.out (by decide) HB2.out)
end Go.Proofs.YtdbfpdhcaiiiaaaDoor

namespace Go.Proofs.YtdbfpdhcaiiiaaaDoor
open Go.RowKit

theorem low_nl {low : List Int} {d : Nat} (hl : low.length = d) (h : ∀ j, j < d → 0 ≤ ix low j) : low = nl (lF low) d := by
  apply List.ext_getElem
  · rw [nl_len]; exact hl
  · intro i h1 h2
    have := h i (by omega)
    rw [ix_lt h1] at this
    simp only [nl, List.getElem_map, List.getElem_range]
    unfold lF
    rw [ix_lt h1]; omega
/-- What a function of a field holds. -/
structure FbRel (w wr : World) (p d : Int) (v : Value) : Prop where
  bel : Below w.heap.size w wr
  fb : Arr wr w.heap.size 3 (three (.int .i64 p) (.int .i64 d) v)
theorem FbRel.begin (w : World) (p d : Int) (v : Value) : FbRel w (w.alloc (.cells #[.int .i64 p, .int .i64 d, v] 24)) p d v := ⟨below_box _ _, three_new w _ _ _ _⟩
theorem FbRel.step {w wr W : World} {p d : Int} {v : Value} (h : FbRel w wr p d v) (hb : Below wr.heap.size wr W) : FbRel w W p d v := ⟨belowTrans h.bel hb, Arr.below h.fb hb⟩
theorem FbRel.cells {w wr : World} {p d : Int} {v : Value} (h : FbRel w wr p d v) :
    wr.cell? ⟨w.heap.size, 0, none⟩ = some (.int .i64 p) ∧ wr.cell? ⟨w.heap.size, 1, none⟩ = some (.int .i64 d) ∧ wr.cell? ⟨w.heap.size, 2, none⟩ = some v :=
  ⟨h.fb.cell (show 0 < 3 by omega), h.fb.cell (show 1 < 3 by omega), h.fb.cell (show 2 < 3 by omega)⟩

set_option maxRecDepth 100000 in
set_option maxHeartbeats 1000000 in
theorem size_any (p d : Int) (v : Value) (w : World) (hv : ∃ a l c, v = .slice a l c) :
    Calls Tryd.prog 32 #[.agg #[.int .i64 p, .int .i64 d, v]] w fun e w' => e = .returned (.int .i64 (ordQ p d : Nat)) ∧ Below w.heap.size w w' := by
  obtain ⟨a, l, c, rfl⟩ := hv
  go_enter Tryd.func32, Tryd.ntmps32
  go_wp2_with fail
  refine (orderOf_any p d _).mono ?_
  rintro e w1 ⟨rfl, rfl⟩
  go_wp2_with fail
  go_ret
  exact ⟨rfl, below_box _ _⟩

set_option maxRecDepth 100000 in
set_option maxHeartbeats 4000000 in
theorem rfault_any (p d : Int) (v : Value) (low : List Int) (w : World) (h : IntsAt w v low) :
    Calls Tryd.prog 31 #[.agg #[.int .i64 p, .int .i64 d, v]] w fun e w' => e = .returned (.int .i64 (fieldFault p d low)) ∧ Below w.heap.size w w' := by
  obtain ⟨a, c, rfl, h1, h2, _, h3⟩ := id h
  have HX := Lib.hid h3
  have HI := Lib.hid h
  have HS := Lib.hid (FbRel.begin w p d (.slice a low.length c))
  have HO := Lib.hid (orderOf_any p d (w.alloc (.cells #[.int .i64 p, .int .i64 d, .slice a low.length c] 24)))
  clear h3 h
  by_cases hq : ordQ p d = 0
  · have HF : Hid (fieldFault p d low = 1) := by show _ = _; unfold fieldFault; rw [if_pos hq]
    rw [hq] at HO
    clear hq
    go_enter Tryd.func31, Tryd.ntmps31
    go_wp2_with (go_at_call 51; refine (HO.out).mono ?_; rintro e w' ⟨rfl, rfl⟩)
    go_ret
    exact ⟨ret_int HF.out.symm, HS.out.bel⟩
  · obtain ⟨a1, a2, a3, a4, a5⟩ := ordQ_of hq
    have hpr := isPB_range a1
    have eq0 : (((ordQ p d : Nat) : Int) == 0) = false := by simp; omega
    obtain ⟨p, rfl⟩ := Int.eq_ofNat_of_zero_le (show 0 ≤ p by omega)
    obtain ⟨d, rfl⟩ := Int.eq_ofNat_of_zero_le (show 0 ≤ d by omega)
    rw [Int.toNat_natCast, Int.toNat_natCast] at a4
    have hp2 : 2 ≤ p := by omega
    have hp61 : p ≤ 61 := by omega
    have hd1 : 1 ≤ d := by omega
    have hd6 : d ≤ 6 := by omega
    have HQ := Lib.hid hq
    have HA4 := Lib.hid a4
    clear hq a1 a2 a3 a4 a5 hpr
    by_cases hl : low.length = d
    · have hne : (((low.length : Nat) : Int) != ((d : Nat) : Int)) = false := by simp [hl]
      have HL := Lib.hid hl
      have HF0 : Hid (fieldFault p d low = if low.any (outP p) then 1 else if irrB p d (lF low) then 0 else 4) := by
        show _ = _; unfold fieldFault; rw [if_neg HQ.out, if_neg (by simp [hl])]; simp
      clear hl
      go_enter Tryd.func31, Tryd.ntmps31
      go_wp2_with (go_at_call 51; refine (HO.out).mono ?_; rintro e w' ⟨rfl, rfl⟩)
      go_loopw [4] (fun u wr => ∃ k : Nat, k ≤ low.length ∧ u = .int .i64 k ∧ (low.take k).any (outP p) = false ∧ FbRel w wr p d (.slice a low.length c)) (fun u _ => low.length - (intOf u).toNat)
      case atStart => exact ⟨0, by omega, rfl, by simp, HS.out⟩
      case round =>
        clear HS HO
        obtain ⟨k, hk, rfl, hno, hR⟩ := hrel
        have HR := Lib.hid hR; have HN := Lib.hid hno
        clear hR hno
        obtain ⟨f0, f1, f2⟩ := HR.out.cells
        by_cases hlt : k < low.length
        · obtain ⟨b, o, rfl, hb, hc⟩ := HX.out k hlt
          have hcell := hc k hlt
          rw [← HR.out.bel.cell (p := ⟨b, o + k, none⟩) hb] at hcell
          clear hc
          have hki : ((k : Nat) : Int) < ((low.length : Nat) : Int) := by omega
          cases d1 : decide (ix low k < 0)
          · cases d2 : decide ((p : Int) ≤ ix low k)
            · obtain ⟨o1, o2, o3⟩ := outP_no d1 d2
              have HN2 : Hid ((low.take (k + 1)).any (outP p) = false) := by
                show _ = _; rw [take_succ_ix hlt, List.any_append, HN.out]; simp [o1]
              have HRD : Hid (∀ n, FbRel w (wr.drewN n) p d (.slice (some ⟨b, o, none⟩) low.length c)) := fun n => HR.out.step (below_D _ _)
              clear o1
              go_wp2_with fail
              go_quiet (fail)
              go_wp2_with fail
              go_roundw
              case rel => exact ⟨k + 1, by omega, by go_num, HN2.out, HRD.out _⟩
              case measure => simp [intOf]; omega
            · have HF : Hid (fieldFault p d low = 1) := by show _ = _; rw [HF0.out, any_take_hit (q := outP p) hlt (by unfold outP; simp at d2 ⊢; omega)]; rfl
              go_wp2_with fail
              go_quiet (fail)
              go_wp2_with fail
              go_ret
              exact ⟨ret_int HF.out.symm, below_drewN HR.out.bel _⟩
          · have HF : Hid (fieldFault p d low = 1) := by show _ = _; rw [HF0.out, any_take_hit (q := outP p) hlt (by unfold outP; simp at d1 ⊢; omega)]; rfl
            go_wp2_with fail
            go_quiet (fail)
            go_wp2_with fail
            go_ret
            exact ⟨ret_int HF.out.symm, below_drewN HR.out.bel _⟩
        · obtain rfl : k = low.length := by omega
          have HA : Hid (low.any (outP p) = false) := by show _ = _; have := HN.out; rw [List.take_length] at this; exact this
          have hin : ∀ j, j < d → 0 ≤ ix low j ∧ ix low j < p := fun j hj => by
            have := List.any_eq_false.1 HA.out _ (ix_mem (i := j) (by have := HL.out; omega))
            unfold outP at this; simp at this; omega
          have HNl := Lib.hid (low_nl HL.out (fun j hj => (hin j hj).1))
          have HLp : Hid (∀ j, j < d → lF low j < p) := fun j hj => by have := hin j hj; unfold lF; omega
          have HF1 : Hid (fieldFault p d low = if noDivs p d (topF d (lF low)) (d / 2) then 0 else 4) := by show _ = _; rw [HF0.out, HA.out]; rfl
          clear hin
          go_wp2_with fail
          clear f0 f1 f2 hne
          go_loopw [5, 6, 7, 8, 9] (fun s u _ _ _ wr => ∃ n m : Nat, n ≤ d / 2 ∧ u = .int .i64 ((n : Int) + 1) ∧ s = .int .i64 m ∧ m = p ^ n ∧ noDivs p d (topF d (lF low)) n = true ∧ FbRel w wr p d (.slice a low.length c)) (fun _ u _ _ _ _ => d - (intOf u).toNat)
          case atStart => exact ⟨0, 1, by omega, rfl, rfl, by simp, by simp [noDivs], HR.out⟩
          case round =>
            clear HR
            obtain ⟨n, m, hn, rfl, rfl, hm, hno, hR⟩ := hrel
            have HR := Lib.hid hR; have HN := Lib.hid hno; have HM := Lib.hid hm
            clear hR hno hm
            obtain ⟨f0, f1, f2⟩ := HR.out.cells
            by_cases hlt : n < d / 2
            · have hP8 := pow_small hp2 (show 2 * (n + 1) ≤ d by omega) HA4.out
              have hm8 : m ≤ 8 := by
                have h1 : p ^ n ≤ p ^ (n + 1) := Nat.pow_le_pow_right (by omega) (by omega)
                have := HM.out; omega
              have hmp : m * p ≤ 64 * 64 := Nat.mul_le_mul (by omega) (by omega)
              have hv := mul_val (q := m) (p := p) (by omega)
              have HN2 : Hid (m * p = p ^ (n + 1)) := by show _ = _; rw [Nat.pow_succ, HM.out]
              obtain ⟨r, hr⟩ : ∃ r, r = m * p := ⟨_, rfl⟩
              rw [← hr] at hv hmp HN2
              have hr8 : r ≤ 8 := by have := HN2.out; omega
              have HW : Hid (wrap64 ((m : Int) * (p : Int)) = (r : Int)) := by injection hv
              clear hr hP8
              have ed : decide (2 * ((n : Int) + 1) ≤ (d : Int)) = true := decide_eq_true (by omega)
              go_wp2_with fail
              try rw [hv]
              clear hv
              go_loopw [7, 8, 9] (fun u _ _ wr => ∃ c0 : Nat, c0 ≤ r ∧ u = .int .i64 c0 ∧ noDiv p (n + 1) d (topF d (lF low)) c0 = true ∧ FbRel w wr p d (.slice a low.length c)) (fun u _ _ _ => r - (intOf u).toNat)
              case atStart => exact ⟨0, by omega, rfl, by simp [noDiv], HR.out⟩
              case round =>
                clear HR f0 f1 f2
                obtain ⟨c0, hc0, rfl, hno, hR⟩ := hrel
                have HR := Lib.hid hR; have HC := Lib.hid hno
                clear hR hno
                obtain ⟨f0, f1, f2⟩ := HR.out.cells
                by_cases hcm : c0 < r
                · have HDg : Hid (∀ W, Calls Tryd.prog 52 #[.int .i64 (c0 : Int), .int .i64 (p : Int), .int .i64 ((n : Int) + 1)] W fun e w' => ∃ v, e = .returned v ∧ Own w' W.heap.size 3 v (nl (dF p c0) (n + 1)) ∧ Below W.heap.size W w') := fun W => rdigits_any c0 p (n + 1) W (by omega) hp2 (by omega) (by omega)
                  cases eb : divB p (n + 1) d (dF p c0) (topF d (lF low))
                  all_goals
                    have HEB := Lib.hid eb
                    clear eb
                    go_wp2_with fail
                    refine (HDg.out wr).mono ?_
                    rintro e w1 ⟨v1, rfl, hown, hb1⟩
                    obtain ⟨xa, xl, xc, rfl⟩ := hown.shape
                    have HR1 := Lib.hid (HR.out.step hb1)
                    have hI1 : IntsAt w1 (.slice a low.length c) (nl (lF low) d) := by rw [← HNl.out]; exact HI.out.below HR1.out.bel
                    have HDv := Lib.hid (rdivides_any p (n + 1) d (.slice xa xl xc) (.slice a low.length c) (dF p c0) (lF low) w1 (hown.intsAt (by rw [nl_len]; omega)) hI1 hp2 (by omega) (by omega) (by omega) hd6 (fun j _ => dF_lt (by omega)) HLp.out)
                    rw [HEB.out] at HDv
                    clear hown hb1 hI1 f0 f1 f2
                    obtain ⟨f0, f1, f2⟩ := HR1.out.cells
                    go_wp2_with fail
                    refine HDv.out.mono ?_
                    rintro e w2 ⟨rfl, hb2⟩
                    have HR2 := Lib.hid (HR1.out.step hb2)
                    clear hb2
                    go_wp2_with fail
                  · go_roundw
                    case rel => exact ⟨c0 + 1, by omega, by go_num, by rw [noDiv_succ, HC.out, HEB.out]; rfl, HR2.out⟩
                    case measure => simp [intOf]; omega
                  · have HF : Hid (fieldFault p d low = 4) := by
                      show _ = _
                      rw [HF1.out, noDivs_hit hlt (noDiv_hit (c := c0) (by rw [← HN2.out]; exact hcm) HEB.out)]; rfl
                    go_ret
                    exact ⟨ret_int HF.out.symm, HR2.out.bel⟩
                · obtain rfl : c0 = r := by omega
                  have HN3 : Hid (noDivs p d (topF d (lF low)) (n + 1) = true) := by
                    show _ = _
                    have h := HC.out
                    rw [HN2.out] at h
                    rw [noDivs_succ, HN.out, h]; rfl
                  go_wp2_with fail
                  go_roundw
                  case rel => exact ⟨n + 1, c0, by omega, by first | rfl | go_num, rfl, HN2.out, HN3.out, HR.out⟩
                  case measure => simp [intOf]; omega
            · obtain rfl : n = d / 2 := by omega
              have HF : Hid (fieldFault p d low = 0) := by show _ = _; rw [HF1.out, HN.out]; rfl
              go_wp2_with fail
              go_ret
              exact ⟨ret_int HF.out.symm, HR.out.bel⟩
    · have hne : (((low.length : Nat) : Int) != ((d : Nat) : Int)) = true := by simp; omega
      have HF : Hid (fieldFault p d low = 2) := by show _ = _; unfold fieldFault; rw [if_neg HQ.out, if_pos (by omega)]
      clear hl
      go_enter Tryd.func31, Tryd.ntmps31
      go_wp2_with (go_at_call 51; refine (HO.out).mono ?_; rintro e w' ⟨rfl, rfl⟩)
      go_ret
      exact ⟨ret_int HF.out.symm, HS.out.bel⟩
end Go.Proofs.YtdbfpdhcaiiiaaaDoor
