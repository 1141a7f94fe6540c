/-
  Contracts: the reference's DevelopOf of a set; both where there is something wrong. No condition.
  Plain words on fields: digits, numbers, division of polynomials, sums and products. No program in sight. No condition.
  The same words on fields over lists, so that they can be reckoned; all fields. No program in sight. No condition.
-/
import Derived.Test.YtdbfpdhcaiiiaaaDoorPDifferMakes6
import Derived.Test.YtdbfpdhcaiiiaaaDoorPDifferMakes4
import Derived.Test.YtdbfpdhcaiiiaaaDoorPDifferMakes3
namespace Go.Proofs.YtdbfpdhcaiiiaaaDoor
open Go.RowKit

/-- A design and a fault are handed back. -/
def DevAns (n : Int) (yss : List (List Int)) (e0 : Int) (w : World) (e : Ending) (w' : World) : Prop := ∃ v, e = .returned (.tuple #[.agg #[.int .i64 n, v], .int .i64 e0]) ∧ RowsAt w' v yss ∧ Below w.heap.size w w'
theorem DevRel.first (w : World) (p : Int) (t : TypeId) :
    DevRel w ((w.alloc (.cells #[.int .i64 0, .slice none 0 0] t)).alloc (.cells #[.int .i64 p, .slice none 0 0] t)) (w.heap.size + 1) p (.slice none 0 0) [] := by
  have := DevRel.late (w := w) (t := t) (Below.refl (w.alloc (.cells #[.int .i64 0, .slice none 0 0] t)).heap.size (w.alloc (.cells #[.int .i64 0, .slice none 0 0] t))) p
  simp only [World.size_alloc] at this
  exact this
theorem dev_box (w : World) (t : TypeId) : Arr (w.alloc (.cells #[.int .i64 0, .slice none 0 0] t)) w.heap.size 2 (fun j => if j = 0 then .int .i64 0 else .slice none 0 0) := pair_new _ _ _ _ _ rfl
theorem dev_last {w w1 : World} (hA : Arr w1 w.heap.size 2 (fun j => if j = 0 then Value.int .i64 0 else .slice none 0 0)) :
    Arr ((w1.setCell ⟨w.heap.size, 0, none⟩ (.int .i64 0)).setCell ⟨w.heap.size, 1, none⟩ (.slice none 0 0)) w.heap.size 2 (fun j => if j = 0 then Value.int .i64 0 else .slice none 0 0) :=
  ((hA.set (show 0 < 2 by omega) (.int .i64 0)).set (show 1 < 2 by omega) (.slice none 0 0)).congr fun j hj => by
    rcases j with _ | _ | j
    · rfl
    · rfl
    · omega
theorem dev_none {w w' : World} (hb : Below w.heap.size w w') (e0 : Int) :
    DevAns 0 [] e0 w (.returned (.tuple #[.agg ((List.range 2).map (fun j => if j = 0 then Value.int .i64 0 else .slice none 0 0)).toArray, .int .i64 e0])) ((w'.setCell ⟨w.heap.size, 0, none⟩ (.int .i64 0)).setCell ⟨w.heap.size, 1, none⟩ (.slice none 0 0)) :=
  ⟨.slice none 0 0, rfl, rows_nil _, (hb.setCell (by show _ ≤ w.heap.size; omega) _).setCell (by show _ ≤ w.heap.size; omega) _⟩

theorem DevRel.doneT {w wr : World} {bo : Nat} {p : Int} {v : Value} {yss : List (List Int)} (h : DevRel w wr bo p v yss) (hl : yss.length ≤ 1000000000) (hr : ∀ i, i < yss.length → (rx yss i).length ≤ 1000000000) :
    DesPostT p yss 0 w (.returned (.tuple #[.agg ((List.range 2).map (fun j => if j = 0 then Value.int .i64 p else v)).toArray, .int .i64 0])) ((wr.setCell ⟨w.heap.size, 0, none⟩ (.int .i64 p)).setCell ⟨w.heap.size, 1, none⟩ v) := by
  have hlo := h.lo
  exact ⟨v, rfl, ((h.own.setFar (by show w.heap.size < _; omega) _).setFar (by show w.heap.size < _; omega) _).rowsAt hl hr, (h.bel.setCell (by show _ ≤ w.heap.size; omega) _).setCell (by show _ ≤ w.heap.size; omega) _,
    fun w'' hc hz => ((h.own.setFar (by show w.heap.size < _; omega) _).setFar (by show w.heap.size < _; omega) _).rowsFar hl hr (fun b o hb => hc b o (by omega)) hz⟩

set_option maxRecDepth 100000 in
set_option maxHeartbeats 4000000 in
theorem developOf_any (n : Nat) (v : Value) (xs : List Int) (w : World) (h : IntsAt w v xs) (hS : IsSet n xs) (h40 : n ≤ 40) :
    Calls Tryd.prog 20 #[.int .i64 (n : Nat), v] w (DesPostT n (devL n xs) 0 w) := by
  have HV := Lib.hid h
  have hn1 := hS.lo
  have hl : (xs.length : Int) ≤ n := inc_len hS.rng hS.inc (by omega)
  have HR0 := Lib.hid (DevRel.first w n 47)
  have HCh : Hid (∀ (s : Nat) w1, s ≤ 200 → IntsAt w1 v xs → Calls Tryd.prog 43 #[.int .i64 (n : Nat), v, .int .i64 1, .int .i64 (s : Nat)] w1 fun e w' => ∃ u, e = .returned u ∧ Own w' w1.heap.size 3 u (movL n 1 s xs) ∧ Below w1.heap.size w1 w') := fun s w1 hs hv => shifted_any n 1 s v xs w1 hv hS (by omega) hs
  obtain ⟨a, c, rfl, _⟩ := h
  clear hS
  have e1 : decide (40 < (n : Int)) = false := by simp; omega
  go_enter Tryd.func20, Tryd.ntmps20
  go_wp2_with fail
  clear e1
  go_loopw [7] (fun s wr => ∃ (k : Nat) (u : Value), k ≤ n ∧ s = .int .i64 k ∧ DevRel w wr (w.heap.size + 1) n u (rowsTo (fun i => movL n 1 i xs) k)) (fun s _ => n - (intOf s).toNat)
  case atStart => exact ⟨0, _, by omega, rfl, HR0.out⟩
  case round =>
    clear HR0
    obtain ⟨k, u, hk, rfl, hR⟩ := hrel
    rename World => W0
    obtain ⟨ua, uc, rfl⟩ := hR.own.shape
    have hkl := rowsTo_len (fun i => movL n 1 i xs) k
    rw [hkl] at hR
    have HR := Lib.hid hR
    have o0 := hR.out.cell (show 0 < 2 by omega); have o1 := hR.out.cell (show 1 < 2 by omega); have o2 := hR.out.free (show 1 < 2 by omega)
    have r0 := hR.res.cell (show 0 < 2 by omega); have r1 := hR.res.cell (show 1 < 2 by omega)
    have f0 := hR.res.free (show 0 < 2 by omega); have f1 := hR.res.free (show 1 < 2 by omega)
    have hsz := hR.size
    clear hR
    by_cases hlt : k < n
    · have HI := Lib.hid (HV.out.below HR.out.bel)
      clear r0 r1 f0 f1 o0 o1 o2
      go_wp2_with fail
      refine (HCh.out k _ (by omega) HI.out).mono ?_
      rintro e w2 ⟨u2, rfl, hown, hb⟩
      obtain ⟨ra, rl, rc, rfl⟩ := hown.shape
      have HR2 := Lib.hid (HR.out.next hb)
      have HO2 := Lib.hid (hown.base hsz)
      have o1 := HR2.out.out.cell (show 1 < 2 by omega)
      have hsz2 := HR2.out.size
      clear hown hb
      go_wp2_with (at_builtin; refine app_list rfl _ _ rfl rfl (HR2.out.own.below (below_box _ _)) _ (HO2.out.alloc _) rfl (by rw [World.cell?_alloc_new]; rfl) (by omega) (by rw [World.size_alloc]; omega) ?_; intro v' w3 hown1 hgrow; obtain ⟨va, vc, rfl⟩ := hown1.shape; have HR3 := Lib.hid ((HR2.out.next (below_box _ _)).push hown1 hgrow); obtain ⟨y1, y2⟩ := (HR2.out.next (below_box _ _)).spot hgrow; clear hown1 hgrow)
      rw [List.length_append, hkl] at HR3
      go_roundw
      case rel => exact ⟨k + 1, _, by omega, by go_num, HR3.out⟩
      case measure => simp [intOf]; omega
    · obtain rfl : k = n := by omega
      go_wp2_with fail
      exact bodyPost_ret (results_pairT (p := 4) (u := 5) rfl HR.out.last Tryd.underlying47 rfl (by kernel_rfl) rfl) rfl
        (HR.out.doneT (by rw [rowsTo_len]; omega) (fun i hi => by rw [rowsTo_len] at hi; rw [rowsTo_rx _ hi, mov_len]; omega))

set_option maxRecDepth 100000 in
set_option maxHeartbeats 1000000 in
theorem developOf_far (n : Int) (v : Value) (w : World) (h40 : 40 < n) :
    Calls Tryd.prog 20 #[.int .i64 n, v] w (DesPostT 0 [] 3 w) := by
  have HD := Lib.hid (below_box w (.cells #[.int .i64 0, .slice none 0 0] 47))
  have HA := Lib.hid (dev_box w 47)
  have e1 : decide (40 < n) = true := by simpa using h40
  go_enter Tryd.func20, Tryd.ntmps20
  go_wp2_with fail
  exact bodyPost_ret (results_pairT (p := 4) (u := 5) rfl HA.out Tryd.underlying47 rfl (by kernel_rfl) rfl) rfl ⟨.slice none 0 0, rfl, rows_nil _, HD.out, fun _ _ _ => rows_nil _⟩

set_option maxRecDepth 100000 in
set_option maxHeartbeats 1000000 in
theorem develop_bad (n : Int) (v : Value) (xs : List Int) (w : World) (h : IntsAt w v xs) (hf : setFault n xs ≠ 0) :
    Calls Tryd.prog 19 #[.int .i64 n, v] w (DevAns 0 [] (setFault n xs) w) := by
  have HD := Lib.hid (below_box w (.cells #[.int .i64 0, .slice none 0 0] 47))
  have HC := Lib.hid (dcheck_any n v xs _ (h.below HD.out))
  have hne : (setFault n xs != 0) = true := by simpa using hf
  clear hf
  obtain ⟨a, c, rfl, _⟩ := h
  generalize setFault n xs = e0 at *
  go_enter Tryd.func19, Tryd.ntmps19
  go_wp2_with fail
  refine (HC.out).mono ?_
  rintro e w1 ⟨rfl, hb⟩
  have HA := Lib.hid ((dev_box w 47).below hb)
  have HB := Lib.hid (belowTrans HD.out hb)
  have r0 := HA.out.cell (show 0 < 2 by omega); have r1 := HA.out.cell (show 1 < 2 by omega)
  have f0 := HA.out.free (show 0 < 2 by omega); have f1 := HA.out.free (show 1 < 2 by omega)
  clear hb HC
  go_wp2_with fail
  exact bodyPost_ret (results_pairT (p := 4) (u := 5) rfl (dev_last HA.out) Tryd.underlying47 rfl (by kernel_rfl) rfl) rfl (dev_none HB.out e0)
set_option maxRecDepth 100000 in
set_option maxHeartbeats 1000000 in
theorem develop_far (n : Int) (v : Value) (xs : List Int) (w : World) (h : IntsAt w v xs) (hf : setFault n xs = 0) (h40 : 40 < n) :
    Calls Tryd.prog 19 #[.int .i64 n, v] w (DevAns 0 [] 3 w) := by
  have HD := Lib.hid (below_box w (.cells #[.int .i64 0, .slice none 0 0] 47))
  have hc := dcheck_any n v xs _ (h.below HD.out)
  rw [hf] at hc
  have HC := Lib.hid hc
  have e1 : decide (40 < n) = true := by simpa using h40
  clear hf hc
  obtain ⟨a, c, rfl, _⟩ := h
  go_enter Tryd.func19, Tryd.ntmps19
  go_wp2_with fail
  refine (HC.out).mono ?_
  rintro e w1 ⟨rfl, hb⟩
  have HA := Lib.hid ((dev_box w 47).below hb)
  have HB := Lib.hid (belowTrans HD.out hb)
  have r0 := HA.out.cell (show 0 < 2 by omega); have r1 := HA.out.cell (show 1 < 2 by omega)
  have f0 := HA.out.free (show 0 < 2 by omega); have f1 := HA.out.free (show 1 < 2 by omega)
  clear hb HC
  go_wp2_with fail
  exact bodyPost_ret (results_pairT (p := 4) (u := 5) rfl (dev_last HA.out) Tryd.underlying47 rfl (by kernel_rfl) rfl) rfl (dev_none HB.out 3)
/-- Both ways together: what any numbers give. -/
theorem dev_both (n : Int) (v : Value) (xs : List Int) (h0 : setFault n xs = 0) : ∃ (m e : Int) (yss : List (List Int)),
    (∀ w, IntsAt w v xs → Calls Tryd.prog 19 #[.int .i64 n, v] w (DevAns m yss e w)) ∧
    (∀ w, IntsAt w v xs → Calls Tryd.prog 20 #[.int .i64 n, v] w (DesPostT m yss e w)) := by
  by_cases h40 : 40 < n
  · exact ⟨0, 3, [], fun w h => develop_far n v xs w h h0 h40, fun w _ => developOf_far n v w h40⟩
  · have hq := set_of h0
    have q1 := hq.lo
    obtain ⟨k, rfl⟩ := Int.eq_ofNat_of_zero_le (show 0 ≤ n by omega)
    exact ⟨k, 0, devL k xs, fun w h => develop_any k v xs w h hq (by omega), fun w h => developOf_any k v xs w h hq (by omega)⟩
end Go.Proofs.YtdbfpdhcaiiiaaaDoor

namespace Go.Proofs.YtdbfpdhcaiiiaaaDoor
open Go.RowKit

/-- The primes up to the greatest order. -/
def primesL : List Int := [2, 3, 5, 7, 11, 13, 17, 19, 23, 29, 31, 37, 41, 43, 47, 53, 59, 61]
def isPB (p : Int) : Bool := primesL.contains p
theorem isPB_range {p : Int} (h : isPB p = true) : 2 ≤ p ∧ p ≤ 61 := by
  unfold isPB at h
  rw [List.contains_eq_mem, decide_eq_true_eq] at h
  simp only [primesL, List.mem_cons, List.not_mem_nil, or_false] at h
  omega
/-- The order of a field; 0: it may not be. -/
def ordQ (p d : Int) : Nat := if isPB p ∧ 1 ≤ d ∧ d ≤ 6 ∧ p.toNat ^ d.toNat ≤ 64 then p.toNat ^ d.toNat else 0
theorem pow_one_le {p : Nat} (h : 1 ≤ p) (k : Nat) : 1 ≤ p ^ k := Nat.one_le_pow _ _ (by omega)
theorem pow_up {p : Nat} (h : 2 ≤ p) {k : Nat} (hk : p ^ k ≤ 64) : k ≤ 6 := by
  refine Classical.byContradiction fun hc => ?_
  have h1 : 2 ^ 7 ≤ 2 ^ k := Nat.pow_le_pow_right (by omega) (by omega)
  have h2 : 2 ^ k ≤ p ^ k := Nat.pow_le_pow_left h k
  omega

theorem mul_val {q p : Nat} (h : q * p ≤ 1000000) : Value.int .i64 (wrap64 ((q : Int) * (p : Int))) = Value.int .i64 ((q * p : Nat) : Int) := by
  rw [← Int.natCast_mul, IntWalk.wrap64_in _ (by omega)]
/-- Digit j of a number. -/
def dF (p n j : Nat) : Nat := n / p ^ j % p
theorem dF_lt {p n j : Nat} (h : 1 ≤ p) : dF p n j < p := Nat.mod_lt _ (by omega)
theorem dF_zero {p n j i : Nat} (h : n / p ^ i = 0) (hj : i ≤ j) : dF p n j = 0 := by
  unfold dF
  obtain ⟨k, rfl⟩ := Nat.exists_eq_add_of_le hj
  rw [Nat.pow_add, ← Nat.div_div_eq_div_mul, h, Nat.zero_div, Nat.zero_mod]
/-- A polynomial of seven numbers. -/
def fV (f : Nat → Nat) : Value := .agg (rowOf 7 fun j => ((f j : Nat) : Int)).toArray
abbrev PolyAt (w : World) (b : Nat) (f : Nat → Nat) : Prop := Nums w b 7 fun j => ((f j : Nat) : Int)
theorem fV_congr {f g : Nat → Nat} (h : ∀ j, j < 7 → f j = g j) : fV f = fV g := by
  unfold fV; rw [rowOf_congr fun j hj => by rw [h j hj]]

/-- A number whose digits are told: what is there behind s of d digits, from the highest. -/
def numS (p d : Nat) (f : Nat → Nat) : Nat → Nat
  | 0 => 0
  | s + 1 => numS p d f s * p + f (d - 1 - s)
def numF (p d : Nat) (f : Nat → Nat) : Nat := numS p d f d
theorem numS_lt {p d : Nat} {f : Nat → Nat} (h : ∀ j, j < d → f j < p) : ∀ s, s ≤ d → numS p d f s + 1 ≤ p ^ s
  | 0, _ => by simp [numS]
  | s + 1, hs => by
    have h1 := numS_lt h s (by omega)
    have h2 := h (d - 1 - s) (by omega)
    rw [numS, Nat.pow_succ]
    have h3 : (numS p d f s + 1) * p ≤ p ^ s * p := Nat.mul_le_mul h1 (Nat.le_refl _)
    rw [Nat.add_mul, Nat.one_mul] at h3
    omega
theorem numF_lt {p d : Nat} {f : Nat → Nat} (h : ∀ j, j < d → f j < p) : numF p d f < p ^ d := by
  have := numS_lt h d (Nat.le_refl _); unfold numF; omega
theorem numS_congr {p d : Nat} {f g : Nat → Nat} (h : ∀ j, j < d → f j = g j) : ∀ s, s ≤ d → numS p d f s = numS p d g s
  | 0, _ => rfl
  | s + 1, hs => by rw [numS, numS, numS_congr h s (by omega), h _ (by omega)]
theorem numF_congr {p d : Nat} {f g : Nat → Nat} (h : ∀ j, j < d → f j = g j) : numF p d f = numF p d g := numS_congr h d (Nat.le_refl _)

/-- The sum of two elements. -/
def addV (p d a b : Nat) : Nat := numF p d fun j => (dF p a j + dF p b j) % p
theorem addV_lt {p d a b : Nat} (hp : 1 ≤ p) : addV p d a b < p ^ d := numF_lt fun _ _ => Nat.mod_lt _ (by omega)

/-- A polynomial times x. -/
def shF (p d : Nat) (low x : Nat → Nat) (j : Nat) : Nat := if j < d then ((if j = 0 then 0 else x (j - 1)) + (p - x (d - 1)) * low j) % p else 0
def shN (p d : Nat) (low x : Nat → Nat) : Nat → Nat → Nat
  | 0 => x
  | i + 1 => shF p d low (shN p d low x i)
/-- The product's digits behind i digits of the second. -/
def outF (p d : Nat) (low x y : Nat → Nat) : Nat → Nat → Nat
  | 0 => fun _ => 0
  | i + 1 => fun j => if j < d then (outF p d low x y i j + shN p d low x i j * y i) % p else 0
def mulV (p d : Nat) (low : Nat → Nat) (a b : Nat) : Nat := numF p d (outF p d low (dF p a) (dF p b) d)
theorem shN_lt {p d : Nat} {low x : Nat → Nat} (hp : 1 ≤ p) (hx : ∀ j, x j < p) : ∀ i j, shN p d low x i j < p
  | 0, j => hx j
  | i + 1, j => by
    rw [shN]; unfold shF
    split
    · exact Nat.mod_lt _ (by omega)
    · omega
theorem outF_lt {p d : Nat} {low x y : Nat → Nat} (hp : 1 ≤ p) : ∀ i j, outF p d low x y i j < p
  | 0, j => by show 0 < p; omega
  | i + 1, j => by
    rw [outF]
    dsimp only
    split
    · exact Nat.mod_lt _ (by omega)
    · omega
theorem mulV_lt {p d : Nat} {low : Nat → Nat} {a b : Nat} (hp : 1 ≤ p) : mulV p d low a b < p ^ d := numF_lt fun j _ => outF_lt hp d j

/-- One step of a division: the place t + n is taken out. -/
def redF (p n t : Nat) (d a : Nat → Nat) (j : Nat) : Nat :=
  if t ≤ j ∧ j < t + n then (a j + (p - a (t + n)) * d (j - t)) % p else if j = t + n then 0 else a j
/-- What is left behind s steps from the top. -/
def divF (p n k : Nat) (d a : Nat → Nat) : Nat → Nat → Nat
  | 0 => a
  | s + 1 => redF p n (k - s - n) d (divF p n k d a s)
theorem redF_lt {p n t : Nat} {d a : Nat → Nat} (hp : 1 ≤ p) (ha : ∀ j, a j < p) (j : Nat) : redF p n t d a j < p := by
  unfold redF
  split
  · exact Nat.mod_lt _ (by omega)
  · split
    · omega
    · exact ha j
theorem divF_lt {p n k : Nat} {d a : Nat → Nat} (hp : 1 ≤ p) (ha : ∀ j, a j < p) : ∀ s j, divF p n k d a s j < p
  | 0, j => ha j
  | s + 1, j => redF_lt hp (divF_lt hp ha s) j
/-- Does a polynomial of degree n (its digits below the highest) divide another of degree k? -/
def divB (p n k : Nat) (d a : Nat → Nat) : Bool := (List.range (k + 1)).all fun j => divF p n k d a (k + 1 - n) j == 0
/-- x to the power of k, and low. -/
def topF (k : Nat) (low : Nat → Nat) (j : Nat) : Nat := if j < k then low j else if j = k then 1 else 0
theorem topF_lt {p k : Nat} {low : Nat → Nat} (hp : 2 ≤ p) (h : ∀ j, j < k → low j < p) (j : Nat) : topF k low j < p := by
  unfold topF
  split
  · exact h j (by assumption)
  · split <;> omega
/-- Is there no divisor among the first m of degree n? -/
def noDiv (p n k : Nat) (a : Nat → Nat) (m : Nat) : Bool := (List.range m).all fun c => !divB p n k (dF p c) a
/-- Is there none of the degrees up to n? -/
def noDivs (p k : Nat) (a : Nat → Nat) (n : Nat) : Bool := (List.range n).all fun i => noDiv p (i + 1) k a (p ^ (i + 1))
/-- Is x to the power of k, and low, no product? -/
def irrB (p k : Nat) (low : Nat → Nat) : Bool := noDivs p k (topF k low) (k / 2)
theorem noDiv_succ (p n k : Nat) (a : Nat → Nat) (m : Nat) : noDiv p n k a (m + 1) = (noDiv p n k a m && !divB p n k (dF p m) a) := by
  unfold noDiv; rw [List.range_succ, List.all_append]; simp
theorem noDivs_succ (p k : Nat) (a : Nat → Nat) (n : Nat) : noDivs p k a (n + 1) = (noDivs p k a n && noDiv p (n + 1) k a (p ^ (n + 1))) := by
  unfold noDivs; rw [List.range_succ, List.all_append]; simp
theorem noDiv_hit {p n k : Nat} {a : Nat → Nat} {c m : Nat} (hc : c < m) (h : divB p n k (dF p c) a = true) : noDiv p n k a m = false := by
  unfold noDiv; rw [List.all_eq_false]; exact ⟨c, List.mem_range.2 hc, by simp [h]⟩
theorem noDivs_hit {p k : Nat} {a : Nat → Nat} {i n : Nat} (hi : i < n) (h : noDiv p (i + 1) k a (p ^ (i + 1)) = false) : noDivs p k a n = false := by
  unfold noDivs; rw [List.all_eq_false]; exact ⟨i, List.mem_range.2 hi, by simp [h]⟩

/-- The number's digits as they stand in a list. -/
def lF (low : List Int) (j : Nat) : Nat := (ix low j).toNat
/-- Is a number none of this prime's? -/
def outP (p : Int) (x : Int) : Bool := decide (x < 0 ∨ p ≤ x)
/-- What is wrong with a field. -/
def fieldFault (p d : Int) (low : List Int) : Int :=
  if ordQ p d = 0 then 1 else if (low.length : Int) ≠ d then 2 else if low.any (outP p) then 1 else if irrB p.toNat d.toNat (lF low) then 0 else 4

/-- What a field without fault is. -/
structure IsField (p d : Nat) (low : List Int) : Prop where
  pr : isPB p = true
  d1 : 1 ≤ d
  d6 : d ≤ 6
  q64 : p ^ d ≤ 64
  len : low.length = d
  rng : ∀ k, k < d → 0 ≤ ix low k ∧ ix low k < p
  irr : irrB p d (lF low) = true
theorem IsField.p2 {p d : Nat} {low : List Int} (h : IsField p d low) : 2 ≤ p := by have := (isPB_range h.pr).1; omega
theorem IsField.p61 {p d : Nat} {low : List Int} (h : IsField p d low) : p ≤ 61 := by have := (isPB_range h.pr).2; omega
theorem IsField.q {p d : Nat} {low : List Int} (h : IsField p d low) : ordQ p d = p ^ d := by
  unfold ordQ
  rw [if_pos ⟨h.pr, by have := h.d1; omega, by have := h.d6; omega, by simpa using h.q64⟩]; simp
theorem IsField.lowLt {p d : Nat} {low : List Int} (h : IsField p d low) (j : Nat) : lF low j < p := by
  unfold lF
  by_cases hj : j < d
  · have := h.rng j hj; omega
  · have : ix low j = 0 := by unfold ix; rw [List.getD_eq_getElem?_getD, List.getElem?_eq_none (by rw [h.len]; omega)]; rfl
    have := h.p2
    rw [‹ix low j = 0›]; simp; omega
theorem IsField.lowCast {p d : Nat} {low : List Int} (h : IsField p d low) {j : Nat} (hj : j < d) : ix low j = ((lF low j : Nat) : Int) := by
  have := h.rng j hj; unfold lF; omega
theorem ordQ_of {p d : Int} (h : ordQ p d ≠ 0) : isPB p = true ∧ 1 ≤ d ∧ d ≤ 6 ∧ p.toNat ^ d.toNat ≤ 64 ∧ ordQ p d = p.toNat ^ d.toNat := by
  unfold ordQ at h ⊢
  split at h
  · rename_i h1; exact ⟨h1.1, h1.2.1, h1.2.2.1, h1.2.2.2, by rw [if_pos h1]⟩
  · exact absurd rfl h
theorem field_of {p d : Int} {low : List Int} (h : fieldFault p d low = 0) : IsField p.toNat d.toNat low ∧ 0 ≤ p ∧ 0 ≤ d := by
  unfold fieldFault at h
  split at h
  · exact absurd h (by decide)
  · rename_i h1
    obtain ⟨a1, a2, a3, a4, a5⟩ := ordQ_of h1
    have hp := isPB_range a1
    split at h
    · exact absurd h (by decide)
    · rename_i h2
      split at h
      · exact absurd h (by decide)
      · rename_i h3
        split at h
        · rename_i h4
          refine ⟨⟨by rw [Int.toNat_of_nonneg (by omega)]; exact a1, by omega, by omega, a4, by omega, fun k hk => ?_, h4⟩, by omega, by omega⟩
          have := List.any_eq_false.1 (Bool.eq_false_iff.2 h3) _ (ix_mem (i := k) (show k < low.length by omega))
          unfold outP at this
          simp at this
          omega
        · exact absurd h (by decide)
theorem fault_of {p d : Nat} {low : List Int} (h : IsField p d low) : fieldFault p d low = 0 := by
  unfold fieldFault
  have hq := h.q
  have : 1 ≤ p ^ d := pow_one_le (by have := h.p2; omega) d
  rw [if_neg (by omega), if_neg (by have := h.len; omega), if_neg, if_pos (by simpa using h.irr)]
  simp only [List.any_eq_true, not_exists, not_and]
  intro x hx
  obtain ⟨k, hk, rfl⟩ := List.getElem_of_mem hx
  have := h.rng k (by rw [← h.len]; exact hk)
  rw [ix_lt hk] at this
  unfold outP; simp; omega
end Go.Proofs.YtdbfpdhcaiiiaaaDoor

namespace Go.Proofs.YtdbfpdhcaiiiaaaDoor
open Go.RowKit

def gl (l : List Nat) (j : Nat) : Nat := l.getD j 0
def dg (p n : Nat) : Nat → List Nat
  | 0 => []
  | k + 1 => n % p :: dg p (n / p) k
def numL (p : Nat) : List Nat → Nat
  | [] => 0
  | x :: r => x + p * numL p r
def shL (p : Nat) (low x : List Nat) : List Nat := List.zipWith (fun b l => (b + (p - x.getD (low.length - 1) 0) * l) % p) (0 :: x) low
def mulGo (p : Nat) (low : List Nat) : List Nat → List Nat → List Nat → List Nat
  | _, out, [] => out
  | x, out, y :: ys => mulGo p low (shL p low x) (List.zipWith (fun o x => (o + x * y) % p) out x) ys
def mulC (p : Nat) (low : List Nat) (a b : Nat) : Nat :=
  numL p (mulGo p low (dg p a low.length) (List.replicate low.length 0) (dg p b low.length))
def addC (p d a b : Nat) : Nat := numL p (List.zipWith (fun x y => (x + y) % p) (dg p a d) (dg p b d))

theorem dg_len (p : Nat) : ∀ k n, (dg p n k).length = k
  | 0, _ => rfl
  | k + 1, n => by rw [dg, List.length_cons, dg_len p k]
theorem dg_get (p : Nat) : ∀ k n j, j < k → gl (dg p n k) j = dF p n j
  | 0, _, _, h => by omega
  | k + 1, n, 0, _ => by simp [gl, dg, dF]
  | k + 1, n, j + 1, h => by
    have := dg_get p k (n / p) j (by omega)
    unfold gl at this ⊢
    rw [dg, List.getD_cons_succ, this]
    unfold dF
    rw [Nat.pow_succ, Nat.div_div_eq_div_mul, Nat.mul_comm p]
theorem numS_shift (p d : Nat) (f : Nat → Nat) : ∀ s, s ≤ d → numS p (d + 1) f s = numS p d (fun j => f (j + 1)) s
  | 0, _ => rfl
  | s + 1, h => by
    rw [numS, numS, numS_shift p d f s (by omega)]
    have : d + 1 - 1 - s = d - 1 - s + 1 := by omega
    rw [this]
theorem numL_eq (p : Nat) : ∀ l : List Nat, numL p l = numF p l.length (gl l)
  | [] => rfl
  | x :: r => by
    rw [numL, numL_eq p r]
    unfold numF
    rw [List.length_cons, numS, numS_shift p _ _ _ (Nat.le_refl _)]
    have e : r.length + 1 - 1 - r.length = 0 := by omega
    rw [e]
    have e2 : (fun j => gl (x :: r) (j + 1)) = gl r := by funext j; rfl
    rw [e2]
    show x + p * _ = _ * p + x
    rw [Nat.mul_comm]; omega
theorem gl_zip (g : Nat → Nat → Nat) : ∀ (a b : List Nat) (j : Nat), j < a.length → j < b.length → gl (List.zipWith g a b) j = g (gl a j) (gl b j)
  | [], _, _, h, _ => by simp at h
  | _ :: _, [], _, _, h => by simp at h
  | x :: a, y :: b, 0, _, _ => rfl
  | x :: a, y :: b, j + 1, h1, h2 => gl_zip g a b j (by simpa using h1) (by simpa using h2)
theorem shL_len (p : Nat) (low x : List Nat) (h : x.length = low.length) : (shL p low x).length = low.length := by
  unfold shL; rw [List.length_zipWith, List.length_cons]; omega
theorem shL_get (p : Nat) (low x : List Nat) (h : x.length = low.length) {j : Nat} (hj : j < low.length) : gl (shL p low x) j = shF p low.length (gl low) (gl x) j := by
  unfold shL shF
  rw [gl_zip _ _ _ _ (by rw [List.length_cons]; omega) hj, if_pos hj]
  cases j with
  | zero => rfl
  | succ j => rfl
theorem mulGo_eq (p : Nat) (low : List Nat) (X Y : Nat → Nat) : ∀ (ys x out : List Nat) (i : Nat), x.length = low.length → out.length = low.length →
    (∀ j, j < low.length → gl x j = shN p low.length (gl low) X i j) → (∀ j, j < low.length → gl out j = outF p low.length (gl low) X Y i j) →
    (∀ j, j < ys.length → gl ys j = Y (i + j)) → ys.length + i = low.length →
    (mulGo p low x out ys).length = low.length ∧ ∀ j, j < low.length → gl (mulGo p low x out ys) j = outF p low.length (gl low) X Y low.length j
  | [], x, out, i, h1, h2, h3, h4, h5, h6 => by
    obtain rfl : i = low.length := by simpa using h6
    exact ⟨h2, h4⟩
  | y :: ys, x, out, i, h1, h2, h3, h4, h5, h6 => by
    rw [mulGo]
    refine mulGo_eq p low X Y ys _ _ (i + 1) (shL_len p low x h1) (by rw [List.length_zipWith]; omega) (fun j hj => ?_) (fun j hj => ?_) (fun j hj => ?_) (by rw [List.length_cons] at h6; omega)
    · rw [shL_get p low x h1 hj, shN]
      unfold shF
      rw [if_pos hj, if_pos hj, h3 (low.length - 1) (by omega)]
      cases j with
      | zero => rfl
      | succ j => rw [if_neg (by omega), if_neg (by omega), Nat.add_sub_cancel, h3 j (by omega)]
    · rw [gl_zip _ _ _ _ (by omega) (by omega), outF]
      dsimp only
      rw [if_pos hj, h3 j hj, h4 j hj]
      have := h5 0 (by simp)
      rw [show gl (y :: ys) 0 = y from rfl, Nat.add_zero] at this
      rw [this]
    · have := h5 (j + 1) (by simp; omega)
      rw [show gl (y :: ys) (j + 1) = gl ys j from rfl] at this
      rw [this]; congr 1; omega
theorem mulV_of (p : Nat) (low : List Nat) (a b : Nat) : mulV p low.length (gl low) a b = mulC p low a b := by
  unfold mulC mulV
  obtain ⟨h1, h2⟩ := mulGo_eq p low (dF p a) (dF p b) (dg p b low.length) (dg p a low.length) (List.replicate low.length 0) 0 (dg_len _ _ _) (by simp)
    (fun j hj => dg_get p _ _ _ hj) (fun j hj => by show gl _ j = 0; unfold gl; rw [List.getD_eq_getElem?_getD]; simp [hj]) (fun j hj => by rw [Nat.zero_add]; exact dg_get p _ _ _ (by rw [dg_len] at hj; exact hj)) (by rw [dg_len]; omega)
  rw [numL_eq, h1]
  exact numF_congr fun j hj => (h2 j hj).symm
theorem addV_of (p d a b : Nat) : addV p d a b = addC p d a b := by
  unfold addC addV
  rw [numL_eq, List.length_zipWith, dg_len, dg_len, Nat.min_self]
  exact numF_congr fun j hj => by rw [gl_zip _ _ _ _ (by rw [dg_len]; exact hj) (by rw [dg_len]; exact hj), dg_get p _ _ _ hj, dg_get p _ _ _ hj]

/-- All lists of so many digits. -/
def lows (p : Nat) : Nat → List (List Nat)
  | 0 => [[]]
  | d + 1 => (lows p d).flatMap fun l => (List.range p).map fun x => x :: l
theorem mem_lows (p : Nat) : ∀ (d : Nat) (l : List Nat), l.length = d → (∀ x ∈ l, x < p) → l ∈ lows p d
  | 0, l, h, _ => by rw [List.eq_nil_of_length_eq_zero h]; simp [lows]
  | d + 1, [], h, _ => by simp at h
  | d + 1, x :: l, h, hl => by
    rw [lows, List.mem_flatMap]
    exact ⟨l, mem_lows p d l (by simpa using h) (fun y hy => hl y (by simp [hy])), List.mem_map.2 ⟨x, List.mem_range.2 (hl x (by simp)), rfl⟩⟩
/-- The digits of a field as numbers. -/
def lowN (low : List Int) : List Nat := low.map Int.toNat
theorem lowN_len (low : List Int) : (lowN low).length = low.length := by simp [lowN]
theorem lowN_get (low : List Int) : lF low = gl (lowN low) := by
  funext j
  unfold lF gl lowN ix
  rw [List.getD_eq_getElem?_getD, List.getD_eq_getElem?_getD, List.getElem?_map]
  cases low[j]? <;> rfl
theorem IsField.mem {p d : Nat} {low : List Int} (h : IsField p d low) : lowN low ∈ lows p d := by
  refine mem_lows p d _ (by rw [lowN_len]; exact h.len) (fun x hx => ?_)
  obtain ⟨n, hn, rfl⟩ := List.mem_map.1 hx
  obtain ⟨k, hk, rfl⟩ := List.getElem_of_mem hn
  have := h.rng k (by rw [← h.len]; exact hk)
  rw [ix_lt hk] at this
  have := h.p2
  omega

/-- Division over lists. -/
def redL (p n t : Nat) (d a : List Nat) : List Nat :=
  (List.range a.length).map fun j => if t ≤ j ∧ j < t + n then (a.getD j 0 + (p - a.getD (t + n) 0) * d.getD (j - t) 0) % p else if j = t + n then 0 else a.getD j 0
def divGo (p n k : Nat) (d a : List Nat) : Nat → List Nat
  | 0 => a
  | s + 1 => redL p n (k - s - n) d (divGo p n k d a s)
def divC (p n k : Nat) (d low : List Nat) : Bool := (divGo p n k d (low ++ [1]) (k + 1 - n)).all (· == 0)
def irrC (p k : Nat) (low : List Nat) : Bool := (List.range (k / 2)).all fun n => (List.range (p ^ (n + 1))).all fun c => !divC p (n + 1) k (dg p c (n + 1)) low
theorem redL_len (p n t : Nat) (d a : List Nat) : (redL p n t d a).length = a.length := by simp [redL]
theorem redL_get (p n t : Nat) (d a : List Nat) (D A : Nat → Nat) (hd : ∀ j, j < n → gl d j = D j) (ha : ∀ j, j < a.length → gl a j = A j) (ht : t + n < a.length) {j : Nat} (hj : j < a.length) : gl (redL p n t d a) j = redF p n t D A j := by
  have e : gl (redL p n t d a) j = if t ≤ j ∧ j < t + n then (a.getD j 0 + (p - a.getD (t + n) 0) * d.getD (j - t) 0) % p else if j = t + n then 0 else a.getD j 0 := by
    unfold gl redL; rw [List.getD_eq_getElem?_getD]; simp [hj]
  rw [e]
  unfold redF
  have h1 := ha j hj
  have h2 := ha (t + n) ht
  unfold gl at h1 h2
  rw [h1, h2]
  by_cases hc : t ≤ j ∧ j < t + n
  · rw [if_pos hc, if_pos hc]
    have h3 := hd (j - t) (by omega)
    unfold gl at h3
    rw [h3]
  · rw [if_neg hc, if_neg hc]
theorem divGo_len (p n k : Nat) (d a : List Nat) : ∀ s, (divGo p n k d a s).length = a.length
  | 0 => rfl
  | s + 1 => by rw [divGo, redL_len, divGo_len p n k d a s]
theorem divGo_get (p n k : Nat) (d a : List Nat) (D A : Nat → Nat) (hn : n ≤ k) (hl : a.length = k + 1) (hd : ∀ j, j < n → gl d j = D j) (ha : ∀ j, j < a.length → gl a j = A j) :
    ∀ s, s ≤ k + 1 - n → ∀ j, j < a.length → gl (divGo p n k d a s) j = divF p n k D A s j
  | 0, _, j, hj => ha j hj
  | s + 1, hs, j, hj => by
    have ih := divGo_get p n k d a D A hn hl hd ha s (by omega)
    rw [divGo, divF]
    exact redL_get p n _ d _ D _ hd (fun i hi => ih i (by rw [divGo_len] at hi; exact hi)) (by rw [divGo_len]; omega) (by rw [divGo_len]; exact hj)
theorem divC_eq (p n k : Nat) (low : List Nat) (c : Nat) (hn : n ≤ k) (hl : low.length = k) : divC p n k (dg p c n) low = divB p n k (dF p c) (topF k (gl low)) := by
  unfold divC divB
  have hlen : (low ++ [1]).length = k + 1 := by simp [hl]
  have hg := divGo_get p n k (dg p c n) (low ++ [1]) (dF p c) (topF k (gl low)) hn hlen (fun j hj => dg_get p _ _ _ hj) (fun j hj => by
    unfold topF gl
    by_cases h : j < k
    · rw [if_pos h, List.getD_eq_getElem?_getD, List.getElem?_append_left (by omega), List.getD_eq_getElem?_getD]
    · have ej : j = k := by omega
      rw [if_neg h, if_pos ej, List.getD_eq_getElem?_getD, List.getElem?_append_right (by omega), ej, hl]; simp) (k + 1 - n) (Nat.le_refl _)
  have hl2 := divGo_len p n k (dg p c n) (low ++ [1]) (k + 1 - n)
  rw [hlen] at hl2 hg
  generalize divGo p n k (dg p c n) (low ++ [1]) (k + 1 - n) = L at *
  rw [Bool.eq_iff_iff, List.all_eq_true, List.all_eq_true]
  constructor
  · intro h j hj
    have hj := List.mem_range.1 hj
    rw [← hg j hj]
    have := h L[j] (List.getElem_mem (by omega))
    unfold gl; rw [List.getD_eq_getElem?_getD, List.getElem?_eq_getElem (by omega)]; exact this
  · intro h x hx
    obtain ⟨j, hj, rfl⟩ := List.getElem_of_mem hx
    have := h j (List.mem_range.2 (by omega))
    rw [← hg j (by omega)] at this
    unfold gl at this; rw [List.getD_eq_getElem?_getD, List.getElem?_eq_getElem (by omega)] at this; exact this
theorem irrC_eq (p k : Nat) (low : List Nat) (hl : low.length = k) : irrB p k (gl low) = irrC p k low := by
  unfold irrB noDivs noDiv irrC
  rw [Bool.eq_iff_iff, List.all_eq_true, List.all_eq_true]
  constructor
  · intro h n hn
    have := h n hn
    rw [List.all_eq_true] at this ⊢
    intro c hc
    have hn := List.mem_range.1 hn
    rw [divC_eq p (n + 1) k low c (by omega) hl]
    exact this c hc
  · intro h n hn
    have := h n hn
    rw [List.all_eq_true] at this ⊢
    intro c hc
    have hn := List.mem_range.1 hn
    rw [← divC_eq p (n + 1) k low c (by omega) hl]
    exact this c hc
theorem IsField.irrC {p d : Nat} {low : List Int} (h : IsField p d low) : Go.Proofs.YtdbfpdhcaiiiaaaDoor.irrC p d (lowN low) = true := by
  have := h.irr
  rw [lowN_get, irrC_eq p d _ (by rw [lowN_len]; exact h.len)] at this
  exact this
/-- Which orders there are. -/
def ordersL : List (Nat × Nat) := [(2, 2), (2, 3), (2, 4), (2, 5), (2, 6), (3, 2), (3, 3), (5, 2), (7, 2)]
theorem orders_all : ((List.range 7).all fun d => (List.range 62).all fun p => !isPB (p : Int) || d == 0 || !decide (p ^ d ≤ 64) || d == 1 || ordersL.contains (p, d)) = true := by decide +kernel
theorem IsField.cases {p d : Nat} {low : List Int} (h : IsField p d low) : d = 1 ∨ (p, d) ∈ ordersL := by
  have h1 := List.all_eq_true.1 orders_all d (List.mem_range.2 (by have := h.d6; omega))
  have h2 := List.all_eq_true.1 h1 p (List.mem_range.2 (by have := h.p61; omega))
  have := h.d1
  have := h.q64
  simp only [h.pr, Bool.not_true, Bool.false_or, Bool.or_eq_true, beq_iff_eq, Bool.not_eq_true', decide_eq_false_iff_not, List.contains_iff_mem] at h2
  rcases h2 with ((h2 | h2) | h2) | h2
  · omega
  · omega
  · exact .inl h2
  · exact .inr h2

/-- A power, by squares. -/
def powS (M : Nat → Nat → Nat) : Nat → Nat → Nat → Nat → Nat
  | 0, out, _, _ => out
  | f + 1, out, a, n => if n = 0 then out else powS M f (if n % 2 = 1 then M out a else out) (M a a) (n / 2)
/-- The order of an element. -/
def ordS (M : Nat → Nat → Nat) (a : Nat) : Nat → Nat → Nat → Option Nat
  | 0, _, _ => none
  | f + 1, b, m => if b = 1 ∨ b = 0 then some m else ordS M a f (M b a) (m + 1)
/-- The least element whose powers are all. -/
def rootS (M : Nat → Nat → Nat) (q : Nat) : Nat → Nat → Option Nat
  | 0, _ => none
  | f + 1, a => match ordS M a 64 a 1 with
    | none => none
    | some m => if m = q - 1 then some a else rootS M q f (a + 1)
/-- The product in a field. -/
def mulM (p d : Nat) (low : List Int) (a b : Nat) : Nat := mulV p d (lF low) a b
theorem mulM_lt {p d : Nat} {low : List Int} (hF : IsField p d low) (a b : Nat) : mulM p d low a b < 64 := by
  have := mulV_lt (p := p) (d := d) (low := lF low) (a := a) (b := b) (by have := hF.p2; omega)
  have := hF.q64
  unfold mulM; omega
theorem mulM_of {p d : Nat} {low : List Int} (hF : IsField p d low) : mulM p d low = mulC p (lowN low) := by
  funext a b
  have := mulV_of p (lowN low) a b
  rw [lowN_len, hF.len] at this
  unfold mulM
  rw [lowN_get, this]
def mul1 (p a b : Nat) : Nat := (0 + a % p * (b % p)) % p + p * 0
theorem mulC_one (p l : Nat) : mulC p [l] = mul1 p := rfl
theorem root_one : (primesL.all fun p => (rootS (mul1 p.toNat) p.toNat 62 1).isSome) = true := by decide +kernel
def rootAll (p d : Nat) : Bool := (lows p d).all fun l => !irrC p d l || (rootS (mulC p l) (p ^ d) 62 1).isSome
theorem root22 : rootAll 2 2 = true := by decide +kernel
theorem root23 : rootAll 2 3 = true := by decide +kernel
theorem root24 : rootAll 2 4 = true := by decide +kernel
theorem root25 : rootAll 2 5 = true := by decide +kernel
theorem root26 : rootAll 2 6 = true := by decide +kernel
theorem root32 : rootAll 3 2 = true := by decide +kernel
theorem root33 : rootAll 3 3 = true := by decide +kernel
theorem root52 : rootAll 5 2 = true := by decide +kernel
theorem root72 : rootAll 7 2 = true := by decide +kernel
theorem rootAll_of {p d : Nat} {low : List Int} (hF : IsField p d low) (h : rootAll p d = true) : (rootS (mulC p (lowN low)) (p ^ d) 62 1).isSome = true := by
  have := List.all_eq_true.1 h _ hF.mem
  rw [hF.irrC] at this
  simpa using this
theorem root_is {p d : Nat} {low : List Int} (hF : IsField p d low) : (rootS (mulM p d low) (p ^ d) 62 1).isSome = true := by
  rw [mulM_of hF]
  rcases hF.cases with h | h
  · subst h
    obtain ⟨l, hl⟩ : ∃ l, lowN low = [l] := by
      have h1 := hF.len
      rw [← lowN_len] at h1
      match hh : lowN low, h1 with
      | [l], _ => exact ⟨l, rfl⟩
    rw [hl, mulC_one, Nat.pow_one]
    have hp := hF.pr
    unfold isPB at hp
    rw [List.contains_eq_mem, decide_eq_true_eq] at hp
    have := List.all_eq_true.1 root_one _ hp
    simpa using this
  · simp only [ordersL, List.mem_cons, Prod.mk.injEq, List.not_mem_nil, or_false] at h
    rcases h with h | h | h | h | h | h | h | h | h
    all_goals obtain ⟨rfl, rfl⟩ := h
    · exact rootAll_of hF root22
    · exact rootAll_of hF root23
    · exact rootAll_of hF root24
    · exact rootAll_of hF root25
    · exact rootAll_of hF root26
    · exact rootAll_of hF root32
    · exact rootAll_of hF root33
    · exact rootAll_of hF root52
    · exact rootAll_of hF root72
/-- The least root. -/
def rootN (p d : Nat) (low : List Int) : Nat := (rootS (mulM p d low) (p ^ d) 62 1).getD 0
theorem root_some {p d : Nat} {low : List Int} (hF : IsField p d low) : rootS (mulM p d low) (p ^ d) 62 1 = some (rootN p d low) := by
  have := root_is hF
  unfold rootN
  cases h : rootS (mulM p d low) (p ^ d) 62 1 with
  | none => rw [h] at this; cases this
  | some r => rfl
end Go.Proofs.YtdbfpdhcaiiiaaaDoor
