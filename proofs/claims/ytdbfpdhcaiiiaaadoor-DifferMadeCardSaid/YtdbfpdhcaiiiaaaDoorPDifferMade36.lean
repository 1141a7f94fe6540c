/-
  Contract: differ.Singer. No condition but that the table of primes reads as it is laid.
-/
import Derived.Test.YtdbfpdhcaiiiaaaDoorPDifferMade31
import Derived.Test.YtdbfpdhcaiiiaaaDoorPDifferMade35
import Derived.Test.YtdbfpdhcaiiiaaaDoorPDifferMade20
namespace Go.Proofs.YtdbfpdhcaiiiaaaDoor
open Go.RowKit

/-- The least root is an element: reckoned where Singer asks for it. -/
def rootLt (p d : Nat) : Bool := (lows p d).all fun l => !irrC p d l || (match rootS (mulC p l) (p ^ d) 62 1 with
  | some r => decide (r < p ^ d)
  | none => false)
theorem rl23 : rootLt 2 3 = true := by decide +kernel
theorem rl24 : rootLt 2 4 = true := by decide +kernel
theorem rl25 : rootLt 2 5 = true := by decide +kernel
theorem rl33 : rootLt 3 3 = true := by decide +kernel
theorem rootLt_of {p d : Nat} {low : List Int} (hF : IsField p d low) (h : rootLt p d = true) : rootN p d low < p ^ d := by
  have h1 := List.all_eq_true.1 h _ hF.mem
  rw [hF.irrC, Bool.not_true, Bool.false_or, ← mulM_of hF, root_some hF] at h1
  simpa using h1
/-- How long Singer's ring is. -/
def ringV (p d : Nat) : Nat := (p ^ d - 1) / (p - 1)
theorem sing_cases {p d : Nat} {low : List Int} (hF : IsField p d low) (h3 : 3 ≤ d) (hv : ringV p d ≤ 60) : (p = 2 ∧ d = 3) ∨ (p = 2 ∧ d = 4) ∨ (p = 2 ∧ d = 5) ∨ (p = 3 ∧ d = 3) := by
  rcases hF.cases with h | h
  · omega
  · simp only [ordersL, List.mem_cons, Prod.mk.injEq, List.not_mem_nil, or_false] at h
    rcases h with h | h | h | h | h | h | h | h | h
    all_goals obtain ⟨rfl, rfl⟩ := h
    all_goals first | omega | exact absurd hv (by decide)
theorem root_lt {p d : Nat} {low : List Int} (hF : IsField p d low) (h3 : 3 ≤ d) (hv : ringV p d ≤ 60) : rootN p d low < p ^ d := by
  rcases sing_cases hF h3 hv with ⟨rfl, rfl⟩ | ⟨rfl, rfl⟩ | ⟨rfl, rfl⟩ | ⟨rfl, rfl⟩
  · exact rootLt_of hF rl23
  · exact rootLt_of hF rl24
  · exact rootLt_of hF rl25
  · exact rootLt_of hF rl33
/-- What is wrong with a field for Singer. -/
def singFault (p d : Int) (low : List Int) : Int :=
  if fieldFault p d low ≠ 0 then fieldFault p d low else if d < 3 then 4 else if 60 < ringV p.toNat d.toNat then 3 else 0
/-- The powers of the root. -/
def pwS (M : Nat → Nat → Nat) (r : Nat) : Nat → Nat
  | 0 => 1
  | i + 1 => M (pwS M r i) r
/-- Is the trace of power i naught? -/
def sinB (p d : Nat) (low : List Int) (i : Nat) : Bool := traS p d low d 0 (pwS (mulM p d low) (rootN p d low) i) == 0
/-- Singer's set, up to n. -/
def sinL (p d : Nat) (low : List Int) (n : Nat) : List Int := ((List.range n).filter (sinB p d low)).map fun i => ((i : Nat) : Int)
theorem sinL_yes {p d : Nat} {low : List Int} {n : Nat} (h : sinB p d low n = true) : sinL p d low (n + 1) = sinL p d low n ++ [((n : Nat) : Int)] := by
  unfold sinL; rw [List.range_succ, List.filter_append]; simp [h]
theorem sinL_no {p d : Nat} {low : List Int} {n : Nat} (h : sinB p d low n = false) : sinL p d low (n + 1) = sinL p d low n := by
  unfold sinL; rw [List.range_succ, List.filter_append]; simp [h]
theorem sinL_len (p d : Nat) (low : List Int) (n : Nat) : (sinL p d low n).length ≤ n := by
  unfold sinL
  have := List.length_filter_le (sinB p d low) (List.range n)
  simp at this ⊢; omega
/-- What Singer answers. -/
def SgPost (n : Int) (xs : List Int) (f : Int) (w : World) (e : Ending) (w' : World) : Prop := ∃ v, e = .returned (.tuple #[.int .i64 n, v, .int .i64 f]) ∧ IntsAt w' v xs ∧ Below w.heap.size w w'
theorem sg_no {f : Int} {w w' : World} (hb : Below w.heap.size w w') {f' : Int} (h : f' = f) : SgPost 0 [] f w (.returned (.tuple #[.int .i64 0, .slice none 0 0, .int .i64 f'])) w' := ⟨_, by rw [h], intsAt_nil _, hb⟩
theorem sg_yes {n m : Nat} {xs : List Int} {w w' : World} {v : Value} (hi : IntsAt w' v xs) (hb : Below w.heap.size w w') (h : m = n) : SgPost n xs 0 w (.returned (.tuple #[.int .i64 (m : Int), v, .int .i64 0])) w' := ⟨v, by rw [h], hi, hb⟩

set_option maxRecDepth 100000 in
set_option maxHeartbeats 3000000 in
theorem singer_bad (p d : Int) (v : Value) (low : List Int) (w : World) (h : IntsAt w v low) (hP : PrimesAt w) (hf : fieldFault p d low ≠ 0 ∨ d < 3) :
    Calls Tryd.prog 17 #[.agg #[.int .i64 p, .int .i64 d, v]] w (SgPost 0 [] (singFault p d low) w) := by
  obtain ⟨sa, sc, rfl, _⟩ := id h
  have HS := Lib.hid (FbRel.begin w p d (.slice sa low.length sc))
  have HRo := Lib.hid (froot_any p d _ low _ (h.below HS.out.bel) (hP.below HS.out.bel))
  unfold OpPost at HRo
  clear h hP
  by_cases h0 : fieldFault p d low = 0
  · have hd : d < 3 := by
      rcases hf with h | h
      · exact absurd h0 h
      · exact h
    have HF : Hid (4 = singFault p d low) := by show _ = _; unfold singFault; rw [if_neg (by simp [h0]), if_pos hd]
    have ed : decide (d < 3) = true := by simpa using hd
    rw [h0, if_pos rfl] at HRo
    clear h0 hf hd
    go_enter Tryd.func17, Tryd.ntmps17
    go_wp2_with fail
    refine HRo.out.mono ?_
    rintro e w1 ⟨rfl, hb1⟩
    have HR := Lib.hid (HS.out.step hb1)
    obtain ⟨f0, f1, f2⟩ := HR.out.cells
    clear hb1
    go_wp2_with fail
    go_ret3
    exact sg_no HR.out.bel HF.out
  · have HF : Hid (fieldFault p d low = singFault p d low) := by show _ = _; unfold singFault; rw [if_pos h0]
    have e1 : (fieldFault p d low != 0) = true := by simp [h0]
    rw [if_neg h0] at HRo
    clear h0 hf
    go_enter Tryd.func17, Tryd.ntmps17
    go_wp2_with fail
    refine HRo.out.mono ?_
    rintro e w1 ⟨rfl, hb1⟩
    have HR := Lib.hid (HS.out.step hb1)
    clear hb1
    go_wp2_with fail
    go_ret3
    exact sg_no HR.out.bel HF.out
theorem ring_div {q p V : Nat} (hq : 1 ≤ q) (hp : 2 ≤ p) (h : V = (q - 1) / (p - 1)) : ((q : Int) - 1) / ((p : Int) - 1) = (V : Int) := by
  have h1 : (q : Int) - 1 = ((q - 1 : Nat) : Int) := by omega
  have h2 : (p : Int) - 1 = ((p - 1 : Nat) : Int) := by omega
  rw [h1, h2, ← Int.natCast_ediv, ← h]
theorem ring_val {q p V : Nat} (hq : 1 ≤ q) (hq2 : q ≤ 64) (hp : 2 ≤ p) (h : V = (q - 1) / (p - 1)) : wrap64 (((q : Int) - 1) / ((p : Int) - 1)) = (V : Int) := by
  have h1 : (q : Int) - 1 = ((q - 1 : Nat) : Int) := by omega
  have h2 : (p : Int) - 1 = ((p - 1 : Nat) : Int) := by omega
  have h3 : (q - 1) / (p - 1) ≤ q - 1 := Nat.div_le_self _ _
  rw [h1, h2, ← Int.natCast_ediv, ← h]
  exact IntWalk.wrap64_in _ (by omega)

set_option maxRecDepth 100000 in
set_option maxHeartbeats 4000000 in
theorem singer_far (P D : Nat) (v : Value) (low : List Int) (w : World) (h : IntsAt w v low) (hPr : PrimesAt w) (hF : IsField P D low) (h3 : 3 ≤ D) (hfar : 60 < ringV P D) :
    Calls Tryd.prog 17 #[.agg #[.int .i64 P, .int .i64 D, v]] w (SgPost 0 [] (singFault P D low) w) := by
  obtain ⟨sa, sc, rfl, _⟩ := id h
  have HS := Lib.hid (FbRel.begin w P D (.slice sa low.length sc))
  have hro := froot_any P D _ low _ (h.below HS.out.bel) (hPr.below HS.out.bel)
  unfold OpPost at hro
  have HF : Hid (3 = singFault P D low) := by show _ = _; unfold singFault; rw [if_neg (by simp [fault_of hF]), if_neg (by omega), if_pos (by simpa using hfar)]
  rw [fault_of hF, if_pos rfl] at hro
  have HRo := Lib.hid hro
  have hp := hF.p2; have hp61 := hF.p61; have hd6 := hF.d6
  have HQ := Lib.hid hF.q64
  have HFar : Hid (60 < (P ^ D - 1) / (P - 1)) := hfar
  have ed : decide ((D : Int) < 3) = false := by simp; omega
  clear h hPr hro hF hfar
  go_enter Tryd.func17, Tryd.ntmps17
  go_wp2_with fail
  refine HRo.out.mono ?_
  rintro e w1 ⟨rfl, hb1⟩
  have HR := Lib.hid (HS.out.step hb1)
  obtain ⟨f0, f1, f2⟩ := HR.out.cells
  clear hb1
  go_wp2_with fail
  go_loop [7, 29] (fun s i => ∃ k q : Nat, k ≤ D ∧ i = .int .i64 k ∧ s = .int .i64 q ∧ q = P ^ k) (fun _ i => D - (intOf i).toNat)
  case atStart => exact ⟨0, 1, by omega, rfl, rfl, by simp⟩
  case round =>
    obtain ⟨k, q, hk, rfl, rfl, hq⟩ := hrel
    have HQk := Lib.hid hq
    have hq64 : q ≤ 64 := by
      have h1 : P ^ k ≤ P ^ D := Nat.pow_le_pow_right (by omega) hk
      have := HQ.out; omega
    have hq1 : 1 ≤ q := by rw [hq]; exact pow_one_le (by omega) k
    have hm : q * P ≤ 64 * 61 := Nat.mul_le_mul hq64 hp61
    have hv := mul_val (q := q) (p := P) (by omega)
    have HN : Hid (q * P = P ^ (k + 1)) := by show _ = _; rw [Nat.pow_succ, hq]
    obtain ⟨m, hm2⟩ : ∃ m, m = q * P := ⟨_, rfl⟩
    rw [← hm2] at hv hm HN
    clear hm2 hq
    by_cases hlt : k < D
    · go_wp2_with fail
      go_round
      case rel => exact ⟨k + 1, m, by omega, by go_num, by first | exact hv | rfl, HN.out⟩
      case measure => simp [intOf]; omega
    · obtain rfl : k = D := by omega
      obtain ⟨V, hV⟩ : ∃ V, V = (q - 1) / (P - 1) := ⟨_, rfl⟩
      have hV60 : 60 < V := by have := HFar.out; rw [hV, HQk.out]; exact this
      have hrv := congrArg (Value.int .i64) (ring_val hq1 hq64 hp hV)
      have hdv := ring_div hq1 hp hV
      have hp1 : ¬ (P : Int) - 1 = 0 := by omega
      have hp2' : IntKind.i64.wrap ((P : Int) - 1) = (P : Int) - 1 := IntWalk.i64_in _ (by omega)
      clear hv hV
      go_wp2_with fail
      go_ret3
      exact sg_no HR.out.bel HF.out
set_option maxRecDepth 100000 in
set_option maxHeartbeats 4000000 in
theorem singer_yes (P D : Nat) (v : Value) (low : List Int) (w : World) (h : IntsAt w v low) (hPr : PrimesAt w) (hF : IsField P D low) (h3 : 3 ≤ D) (hfar : ringV P D ≤ 60) :
    Calls Tryd.prog 17 #[.agg #[.int .i64 P, .int .i64 D, v]] w (SgPost (ringV P D : Nat) (sinL P D low (ringV P D)) 0 w) := by
  obtain ⟨sa, sc, rfl, _⟩ := id h
  have HS := Lib.hid (FbRel.begin w P D (.slice sa low.length sc))
  have hro := froot_any P D _ low _ (h.below HS.out.bel) (hPr.below HS.out.bel)
  unfold OpPost at hro
  have hrl := root_lt hF h3 hfar
  have HTra : Hid (∀ (x : Nat) W, x < P ^ D → Below w.heap.size w W → Calls Tryd.prog 41 #[.agg #[.int .i64 (P : Int), .int .i64 (D : Int), .slice sa low.length sc], .int .i64 (x : Int)] W fun e w' => e = .returned (.tuple #[.int .i64 (traS P D low D 0 x : Nat), .int .i64 0]) ∧ Below W.heap.size W w') :=
    fun x W hx hW => ftrace_ok P D x _ low W (h.below hW) (hPr.below hW) hF hx
  have HMu : Hid (∀ (x : Nat) W, x < P ^ D → Below w.heap.size w W → Calls Tryd.prog 28 #[.agg #[.int .i64 (P : Int), .int .i64 (D : Int), .slice sa low.length sc], .int .i64 (x : Int), .int .i64 (rootN P D low : Nat)] W fun e w' => e = .returned (.tuple #[.int .i64 (mulM P D low x (rootN P D low) : Nat), .int .i64 0]) ∧ Below W.heap.size W w') := fun x W hx hW => by
    have := fmul_any P D x (rootN P D low : Nat) _ low W (h.below hW) (hPr.below hW)
    unfold OpPost at this
    rw [with_fine hF (fun y hy => by
      simp only [List.mem_cons, List.not_mem_nil, or_false] at hy
      rcases hy with rfl | rfl <;> omega), if_pos rfl, Int.toNat_natCast, Int.toNat_natCast, Int.toNat_natCast, Int.toNat_natCast] at this
    exact this
  have HPw : Hid (∀ i, pwS (mulM P D low) (rootN P D low) i < P ^ D) := fun i => by
    cases i with
    | zero =>
      show 1 < P ^ D
      have h1 : P ^ 1 ≤ P ^ D := Nat.pow_le_pow_right (by have := hF.p2; omega) (by omega)
      rw [Nat.pow_one] at h1
      have := hF.p2
      omega
    | succ i => exact mulM_ltq hF _ _
  rw [fault_of hF, if_pos rfl] at hro
  have HRo := Lib.hid hro
  have hp := hF.p2; have hp61 := hF.p61; have hd6 := hF.d6
  have HQ := Lib.hid hF.q64
  have HFar : Hid ((P ^ D - 1) / (P - 1) ≤ 60) := hfar
  have ed : decide ((D : Int) < 3) = false := by simp; omega
  clear h hPr hro hF hfar hrl
  go_enter Tryd.func17, Tryd.ntmps17
  go_wp2_with fail
  refine HRo.out.mono ?_
  rintro e w1 ⟨rfl, hb1⟩
  have HR := Lib.hid (HS.out.step hb1)
  obtain ⟨f0, f1, f2⟩ := HR.out.cells
  clear hb1
  go_wp2_with fail
  go_loop [7, 29] (fun s i => ∃ k q : Nat, k ≤ D ∧ i = .int .i64 k ∧ s = .int .i64 q ∧ q = P ^ k) (fun _ i => D - (intOf i).toNat)
  case atStart => exact ⟨0, 1, by omega, rfl, rfl, by simp⟩
  case round =>
    obtain ⟨k, q, hk, rfl, rfl, hq⟩ := hrel
    have HQk := Lib.hid hq
    have hq64 : q ≤ 64 := by
      have h1 : P ^ k ≤ P ^ D := Nat.pow_le_pow_right (by omega) hk
      have := HQ.out; omega
    have hq1 : 1 ≤ q := by rw [hq]; exact pow_one_le (by omega) k
    have hm : q * P ≤ 64 * 61 := Nat.mul_le_mul hq64 hp61
    have hv := mul_val (q := q) (p := P) (by omega)
    have HN : Hid (q * P = P ^ (k + 1)) := by show _ = _; rw [Nat.pow_succ, hq]
    obtain ⟨m, hm2⟩ : ∃ m, m = q * P := ⟨_, rfl⟩
    rw [← hm2] at hv hm HN
    clear hm2 hq
    by_cases hlt : k < D
    · go_wp2_with fail
      go_round
      case rel => exact ⟨k + 1, m, by omega, by go_num, by first | exact hv | rfl, HN.out⟩
      case measure => simp [intOf]; omega
    · obtain rfl : k = D := by omega
      obtain ⟨V, hV⟩ : ∃ V, V = (q - 1) / (P - 1) := ⟨_, rfl⟩
      have hV60 : V ≤ 60 := by have := HFar.out; rw [hV, HQk.out]; exact this
      have HVr : Hid (V = ringV P k) := by show _ = _; rw [hV, HQk.out]; rfl
      have hrv := congrArg (Value.int .i64) (ring_val hq1 hq64 hp hV)
      have hdv := ring_div hq1 hp hV
      have hp1 : ¬ (P : Int) - 1 = 0 := by omega
      have hp2' : IntKind.i64.wrap ((P : Int) - 1) = (P : Int) - 1 := IntWalk.i64_in _ (by omega)
      clear hv hV
      go_wp2_with fail
      clear hrv hdv hp2'
      go_loopw [9, 10, 11, 12, 13] (fun u s x _ _ wr => ∃ i : Nat, i ≤ V ∧ s = .int .i64 i ∧ x = .int .i64 (pwS (mulM P k low) (rootN P k low) i : Nat) ∧ Own wr w1.heap.size 3 u (sinL P k low i) ∧ Below w1.heap.size w1 wr) (fun _ s _ _ _ _ => V - (intOf s).toNat)
      case atStart => exact ⟨0, by omega, rfl, rfl, own_nil _ _ _, Below.refl _ _⟩
      case round =>
        obtain ⟨i, hi, rfl, rfl, ho, hb⟩ := hrel
        have HO := Lib.hid ho; have HB := Lib.hid hb
        obtain ⟨ua, ul, uc, rfl⟩ := ho.shape
        clear ho hb
        have HRw := Lib.hid (HR.out.step HB.out)
        have hpw := HPw.out i
        by_cases hlt : i < V
        · obtain ⟨f0, f1, f2⟩ := HRw.out.cells
          obtain ⟨T, hT⟩ : ∃ T, T = traS P k low k 0 (pwS (mulM P k low) (rootN P k low) i) := ⟨_, rfl⟩
          have HTr : Hid (∀ W, Below w.heap.size w W → Calls Tryd.prog 41 #[.agg #[.int .i64 (P : Int), .int .i64 (k : Int), .slice sa low.length sc], .int .i64 (pwS (mulM P k low) (rootN P k low) i : Nat)] W fun e w' => e = .returned (.tuple #[.int .i64 (T : Nat), .int .i64 0]) ∧ Below W.heap.size W w') := fun W hW => by
            rw [hT]; exact HTra.out _ W hpw hW
          have HMl : Hid (∀ W, Below w.heap.size w W → Calls Tryd.prog 28 #[.agg #[.int .i64 (P : Int), .int .i64 (k : Int), .slice sa low.length sc], .int .i64 (pwS (mulM P k low) (rootN P k low) i : Nat), .int .i64 (rootN P k low : Nat)] W fun e w' => e = .returned (.tuple #[.int .i64 (pwS (mulM P k low) (rootN P k low) (i + 1) : Nat), .int .i64 0]) ∧ Below W.heap.size W w') := fun W hW => HMu.out _ W hpw hW
          have HSB : Hid (sinB P k low i = (T == 0)) := by show _ = _; rw [hT]; rfl
          clear hT hpw
          generalize pwS (mulM P k low) (rootN P k low) i = x at *
          by_cases hT0 : T = 0
          · have e1 : (((T : Nat) : Int) == 0) = true := by simp [hT0]
            have HSn : Hid (sinL P k low (i + 1) = sinL P k low i ++ [((i : Nat) : Int)]) := sinL_yes (by rw [HSB.out, hT0]; rfl)
            have HL9 : Hid ((sinL P k low i).length < 1000000000) := by show _ < _; have := sinL_len P k low i; omega
            clear hT0
            go_wp2_with fail
            refine (HTr.out wr HRw.out.bel).mono ?_
            rintro e w2 ⟨rfl, hb2⟩
            have HR2 := Lib.hid (HRw.out.step hb2)
            have HO2 := Lib.hid (HO.out.below hb2)
            have HB2 := Lib.hid (belowTrans HB.out hb2)
            clear hb2 f0 f1 f2
            obtain ⟨f0, f1, f2⟩ := HR2.out.cells
            go_wp2_with (first
              | (at_builtin; refine app_own rfl _ _ rfl rfl (HO2.out.alloc _) _ _ rfl (by rw [World.cell?_alloc_new]; rfl) HL9.out (by rw [World.size_alloc]; exact Nat.le_succ_of_le HB2.out.size) ?_; intro u3 w3 hown hgrow
                 have HO3 : Hid (Own w3 w1.heap.size 3 u3 (sinL P k low (i + 1))) := (by show Own _ _ _ _ _; rw [HSn.out]; exact hown)
                 have HB3 := Lib.hid ((HB2.out.alloc HB2.out.size _).trans (below_grown hgrow (B := w1.heap.size) (fun q hq => (HO2.out.block q hq).1) (by rw [World.size_alloc]; exact Nat.le_succ_of_le HB2.out.size)))
                 have HR3 := Lib.hid (HR.out.step HB3.out)
                 clear hown hgrow f0 f1 f2
                 obtain ⟨f0, f1, f2⟩ := HR3.out.cells))
            refine (HMl.out w3 HR3.out.bel).mono ?_
            rintro e w4 ⟨rfl, hb4⟩
            have HO4 := Lib.hid (HO3.out.below hb4)
            have HB4 := Lib.hid (belowTrans HB3.out hb4)
            clear hb4 f0 f1 f2
            go_wp2_with fail
            go_roundw
            case rel => exact ⟨i + 1, by omega, by go_num, rfl, HO4.out, HB4.out⟩
            case measure => simp [intOf]; omega
          · have e1 : (((T : Nat) : Int) == 0) = false := by simp; omega
            have HSn : Hid (sinL P k low (i + 1) = sinL P k low i) := sinL_no (by rw [HSB.out]; simpa using hT0)
            clear hT0
            go_wp2_with fail
            refine (HTr.out wr HRw.out.bel).mono ?_
            rintro e w2 ⟨rfl, hb2⟩
            have HR2 := Lib.hid (HRw.out.step hb2)
            have HO2 := Lib.hid (HO.out.below hb2)
            have HB2 := Lib.hid (belowTrans HB.out hb2)
            clear hb2 f0 f1 f2
            obtain ⟨f0, f1, f2⟩ := HR2.out.cells
            go_wp2_with fail
            refine (HMl.out w2 HR2.out.bel).mono ?_
            rintro e w4 ⟨rfl, hb4⟩
            have HO4 : Hid (Own w4 w1.heap.size 3 (.slice ua ul uc) (sinL P k low (i + 1))) := by show Own _ _ _ _ _; rw [HSn.out]; exact HO2.out.below hb4
            have HB4 := Lib.hid (belowTrans HB2.out hb4)
            clear hb4 f0 f1 f2
            go_wp2_with fail
            go_roundw
            case rel => exact ⟨i + 1, by omega, by go_num, rfl, HO4.out, HB4.out⟩
            case measure => simp [intOf]; omega
        · obtain rfl : i = V := by omega
          have HIv : Hid (IntsAt wr (.slice ua ul uc) (sinL P k low (ringV P k))) := by
            show IntsAt _ _ _
            rw [← HVr.out]
            exact HO.out.intsAt (by have := sinL_len P k low i; omega)
          go_wp2_with fail
          go_ret3
          exact sg_yes HIv.out HRw.out.bel HVr.out
end Go.Proofs.YtdbfpdhcaiiiaaaDoor
