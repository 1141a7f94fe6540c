/-
  Contract: differ.Singer. No condition but that the table of primes reads as it is laid.
  Contract: the reference's SingerOf. No condition.
  Singer's set of the program and that of the reference are one: reckoned, for the four sizes whose ring fits. No program in sight. No condition.
-/
import Derived.Test.YtdbfpdhcaiiiaaaDoorPDifferMakes16
import Derived.Test.YtdbfpdhcaiiiaaaDoorPDifferMakes17
import Derived.Test.YtdbfpdhcaiiiaaaDoorPDifferMakes10
import Derived.Test.YtdbfpdhcaiiiaaaDoorPDifferMakes12
namespace Go.Proofs.YtdbfpdhcaiiiaaaDoor
open Go.RowKit

/-- The least root is an element: reckoned where Singer asks for it. -/
def rootLt (p d : Nat) : Bool := (lows p d).all fun l => !irrC p d l || (match rootS (mulC p l) (p ^ d) 62 1 with
  | some r => decide (r < p ^ d)
  | none => false)
theorem rl23 : rootLt 2 3 = true := by decide +kernel
theorem rl24 : rootLt 2 4 = true := by decide +kernel
theorem rl25 : rootLt 2 5 = true := by decide +kernel
theorem rl33 : rootLt 3 3 = true := by decide +kernel
theorem rootLt_of {p d : Nat} {low : List Int} (hF : IsField p d low) (h : rootLt p d = true) : rootN p d low < p ^ d := by
  have h1 := List.all_eq_true.1 h _ hF.mem
  rw [hF.irrC, Bool.not_true, Bool.false_or, ← mulM_of hF, root_some hF] at h1
  simpa using h1
/-- How long Singer's ring is. -/
def ringV (p d : Nat) : Nat := (p ^ d - 1) / (p - 1)
theorem sing_cases {p d : Nat} {low : List Int} (hF : IsField p d low) (h3 : 3 ≤ d) (hv : ringV p d ≤ 60) : (p = 2 ∧ d = 3) ∨ (p = 2 ∧ d = 4) ∨ (p = 2 ∧ d = 5) ∨ (p = 3 ∧ d = 3) := by
  rcases hF.cases with h | h
  · omega
  · simp only [ordersL, List.mem_cons, Prod.mk.injEq, List.not_mem_nil, or_false] at h
    rcases h with h | h | h | h | h | h | h | h | h
    all_goals obtain ⟨rfl, rfl⟩ := h
    all_goals first | omega | exact absurd hv (by decide)
theorem root_lt {p d : Nat} {low : List Int} (hF : IsField p d low) (h3 : 3 ≤ d) (hv : ringV p d ≤ 60) : rootN p d low < p ^ d := by
  rcases sing_cases hF h3 hv with ⟨rfl, rfl⟩ | ⟨rfl, rfl⟩ | ⟨rfl, rfl⟩ | ⟨rfl, rfl⟩
  · exact rootLt_of hF rl23
  · exact rootLt_of hF rl24
  · exact rootLt_of hF rl25
  · exact rootLt_of hF rl33
/-- What is wrong with a field for Singer. -/
def singFault (p d : Int) (low : List Int) : Int :=
  if fieldFault p d low ≠ 0 then fieldFault p d low else if d < 3 then 4 else if 60 < ringV p.toNat d.toNat then 3 else 0
/-- The powers of the root. -/
def pwS (M : Nat → Nat → Nat) (r : Nat) : Nat → Nat
  | 0 => 1
  | i + 1 => M (pwS M r i) r
/-- Is the trace of power i naught? -/
def sinB (p d : Nat) (low : List Int) (i : Nat) : Bool := traS p d low d 0 (pwS (mulM p d low) (rootN p d low) i) == 0
/-- Singer's set, up to n. -/
def sinL (p d : Nat) (low : List Int) (n : Nat) : List Int := ((List.range n).filter (sinB p d low)).map fun i => ((i : Nat) : Int)
theorem sinL_yes {p d : Nat} {low : List Int} {n : Nat} (h : sinB p d low n = true) : sinL p d low (n + 1) = sinL p d low n ++ [((n : Nat) : Int)] := by
  unfold sinL; rw [List.range_succ, List.filter_append]; simp [h]
theorem sinL_no {p d : Nat} {low : List Int} {n : Nat} (h : sinB p d low n = false) : sinL p d low (n + 1) = sinL p d low n := by
  unfold sinL; rw [List.range_succ, List.filter_append]; simp [h]
theorem sinL_len (p d : Nat) (low : List Int) (n : Nat) : (sinL p d low n).length ≤ n := by
  unfold sinL
  have := List.length_filter_le (sinB p d low) (List.range n)
  simp at this ⊢; omega
/-- What Singer answers. -/
def SgPost (n : Int) (xs : List Int) (f : Int) (w : World) (e : Ending) (w' : World) : Prop := ∃ v, e = .returned (.tuple #[.int .i64 n, v, .int .i64 f]) ∧ IntsAt w' v xs ∧ Below w.heap.size w w'
theorem sg_no {f : Int} {w w' : World} (hb : Below w.heap.size w w') {f' : Int} (h : f' = f) : SgPost 0 [] f w (.returned (.tuple #[.int .i64 0, .slice none 0 0, .int .i64 f'])) w' := ⟨_, by rw [h], intsAt_nil _, hb⟩
theorem sg_yes {n m : Nat} {xs : List Int} {w w' : World} {v : Value} (hi : IntsAt w' v xs) (hb : Below w.heap.size w w') (h : m = n) : SgPost n xs 0 w (.returned (.tuple #[.int .i64 (m : Int), v, .int .i64 0])) w' := ⟨v, by rw [h], hi, hb⟩

set_option maxRecDepth 100000 in
set_option maxHeartbeats 3000000 in
theorem singer_bad (p d : Int) (v : Value) (low : List Int) (w : World) (h : IntsAt w v low) (hP : PrimesAt w) (hf : fieldFault p d low ≠ 0 ∨ d < 3) :
    Calls Tryd.prog 17 #[.agg #[.int .i64 p, .int .i64 d, v]] w (SgPost 0 [] (singFault p d low) w) := by
  obtain ⟨sa, sc, rfl, _⟩ := id h
  have HS := Lib.hid (FbRel.begin w p d (.slice sa low.length sc))
  have HRo := Lib.hid (froot_any p d _ low _ (h.below HS.out.bel) (hP.below HS.out.bel))
  unfold OpPost at HRo
  clear h hP
  by_cases h0 : fieldFault p d low = 0
  · have hd : d < 3 := by
      rcases hf with h | h
      · exact absurd h0 h
      · exact h
    have HF : Hid (4 = singFault p d low) := by show _ = _; unfold singFault; rw [if_neg (by simp [h0]), if_pos hd]
    have ed : decide (d < 3) = true := by simpa using hd
    rw [h0, if_pos rfl] at HRo
    clear h0 hf hd
    go_enter Tryd.func17, Tryd.ntmps17
    go_wp2_with fail
    refine HRo.out.mono ?_
    rintro e w1 ⟨rfl, hb1⟩
    have HR := Lib.hid (HS.out.step hb1)
    obtain ⟨f0, f1, f2⟩ := HR.out.cells
    clear hb1
    go_wp2_with fail
    go_ret3
    exact sg_no HR.out.bel HF.out
  · have HF : Hid (fieldFault p d low = singFault p d low) := by show _ = _; unfold singFault; rw [if_pos h0]
    have e1 : (fieldFault p d low != 0) = true := by simp [h0]
    rw [if_neg h0] at HRo
    clear h0 hf
    go_enter Tryd.func17, Tryd.ntmps17
    go_wp2_with fail
    refine HRo.out.mono ?_
    rintro e w1 ⟨rfl, hb1⟩
    have HR := Lib.hid (HS.out.step hb1)
    clear hb1
    go_wp2_with fail
    go_ret3
    exact sg_no HR.out.bel HF.out
theorem ring_div {q p V : Nat} (hq : 1 ≤ q) (hp : 2 ≤ p) (h : V = (q - 1) / (p - 1)) : ((q : Int) - 1) / ((p : Int) - 1) = (V : Int) := by
  have h1 : (q : Int) - 1 = ((q - 1 : Nat) : Int) := by omega
  have h2 : (p : Int) - 1 = ((p - 1 : Nat) : Int) := by omega
  rw [h1, h2, ← Int.natCast_ediv, ← h]
theorem ring_val {q p V : Nat} (hq : 1 ≤ q) (hq2 : q ≤ 64) (hp : 2 ≤ p) (h : V = (q - 1) / (p - 1)) : wrap64 (((q : Int) - 1) / ((p : Int) - 1)) = (V : Int) := by
  have h1 : (q : Int) - 1 = ((q - 1 : Nat) : Int) := by omega
  have h2 : (p : Int) - 1 = ((p - 1 : Nat) : Int) := by omega
  have h3 : (q - 1) / (p - 1) ≤ q - 1 := Nat.div_le_self _ _
  rw [h1, h2, ← Int.natCast_ediv, ← h]
  exact IntWalk.wrap64_in _ (by omega)

set_option maxRecDepth 100000 in
set_option maxHeartbeats 4000000 in
theorem singer_far (P D : Nat) (v : Value) (low : List Int) (w : World) (h : IntsAt w v low) (hPr : PrimesAt w) (hF : IsField P D low) (h3 : 3 ≤ D) (hfar : 60 < ringV P D) :
    Calls Tryd.prog 17 #[.agg #[.int .i64 P, .int .i64 D, v]] w (SgPost 0 [] (singFault P D low) w) := by
  obtain ⟨sa, sc, rfl, _⟩ := id h
  have HS := Lib.hid (FbRel.begin w P D (.slice sa low.length sc))
  have hro := froot_any P D _ low _ (h.below HS.out.bel) (hPr.below HS.out.bel)
  unfold OpPost at hro
  have HF : Hid (3 = singFault P D low) := by show _ = _; unfold singFault; rw [if_neg (by simp [fault_of hF]), if_neg (by omega), if_pos (by simpa using hfar)]
  rw [fault_of hF, if_pos rfl] at hro
  have HRo := Lib.hid hro
  have hp := hF.p2; have hp61 := hF.p61; have hd6 := hF.d6
  have HQ := Lib.hid hF.q64
  have HFar : Hid (60 < (P ^ D - 1) / (P - 1)) := hfar
  have ed : decide ((D : Int) < 3) = false := by simp; omega
  clear h hPr hro hF hfar
  go_enter Tryd.func17, Tryd.ntmps17
  go_wp2_with fail
  refine HRo.out.mono ?_
  rintro e w1 ⟨rfl, hb1⟩
  have HR := Lib.hid (HS.out.step hb1)
  obtain ⟨f0, f1, f2⟩ := HR.out.cells
  clear hb1
  go_wp2_with fail
  go_loop [7, 29] (fun s i => ∃ k q : Nat, k ≤ D ∧ i = .int .i64 k ∧ s = .int .i64 q ∧ q = P ^ k) (fun _ i => D - (intOf i).toNat)
  case atStart => exact ⟨0, 1, by omega, rfl, rfl, by simp⟩
  case round =>
    obtain ⟨k, q, hk, rfl, rfl, hq⟩ := hrel
    have HQk := Lib.hid hq
    have hq64 : q ≤ 64 := by
      have h1 : P ^ k ≤ P ^ D := Nat.pow_le_pow_right (by omega) hk
      have := HQ.out; omega
    have hq1 : 1 ≤ q := by rw [hq]; exact pow_one_le (by omega) k
    have hm : q * P ≤ 64 * 61 := Nat.mul_le_mul hq64 hp61
    have hv := mul_val (q := q) (p := P) (by omega)
    have HN : Hid (q * P = P ^ (k + 1)) := by show _ = _; rw [Nat.pow_succ, hq]
    obtain ⟨m, hm2⟩ : ∃ m, m = q * P := ⟨_, rfl⟩
    rw [← hm2] at hv hm HN
    clear hm2 hq
    by_cases hlt : k < D
    · go_wp2_with fail
      go_round
      case rel => exact ⟨k + 1, m, by omega, by go_num, by first | exact hv | rfl, HN.out⟩
      case measure => simp [intOf]; omega
    · obtain rfl : k = D := by omega
      obtain ⟨V, hV⟩ : ∃ V, V = (q - 1) / (P - 1) := ⟨_, rfl⟩
      have hV60 : 60 < V := by have := HFar.out; rw [hV, HQk.out]; exact this
      have hrv := congrArg (Value.int .i64) (ring_val hq1 hq64 hp hV)
      have hdv := ring_div hq1 hp hV
      have hp1 : ¬ (P : Int) - 1 = 0 := by omega
      have hp2' : IntKind.i64.wrap ((P : Int) - 1) = (P : Int) - 1 := IntWalk.i64_in _ (by omega)
      clear hv hV
      go_wp2_with fail
      go_ret3
      exact sg_no HR.out.bel HF.out
set_option maxRecDepth 100000 in
set_option maxHeartbeats 4000000 in
theorem singer_yes (P D : Nat) (v : Value) (low : List Int) (w : World) (h : IntsAt w v low) (hPr : PrimesAt w) (hF : IsField P D low) (h3 : 3 ≤ D) (hfar : ringV P D ≤ 60) :
    Calls Tryd.prog 17 #[.agg #[.int .i64 P, .int .i64 D, v]] w (SgPost (ringV P D : Nat) (sinL P D low (ringV P D)) 0 w) := by
  obtain ⟨sa, sc, rfl, _⟩ := id h
  have HS := Lib.hid (FbRel.begin w P D (.slice sa low.length sc))
  have hro := froot_any P D _ low _ (h.below HS.out.bel) (hPr.below HS.out.bel)
  unfold OpPost at hro
  have hrl := root_lt hF h3 hfar
  have HTra : Hid (∀ (x : Nat) W, x < P ^ D → Below w.heap.size w W → Calls Tryd.prog 41 #[.agg #[.int .i64 (P : Int), .int .i64 (D : Int), .slice sa low.length sc], .int .i64 (x : Int)] W fun e w' => e = .returned (.tuple #[.int .i64 (traS P D low D 0 x : Nat), .int .i64 0]) ∧ Below W.heap.size W w') :=
    fun x W hx hW => ftrace_ok P D x _ low W (h.below hW) (hPr.below hW) hF hx
  have HMu : Hid (∀ (x : Nat) W, x < P ^ D → Below w.heap.size w W → Calls Tryd.prog 28 #[.agg #[.int .i64 (P : Int), .int .i64 (D : Int), .slice sa low.length sc], .int .i64 (x : Int), .int .i64 (rootN P D low : Nat)] W fun e w' => e = .returned (.tuple #[.int .i64 (mulM P D low x (rootN P D low) : Nat), .int .i64 0]) ∧ Below W.heap.size W w') := fun x W hx hW => by
    have := fmul_any P D x (rootN P D low : Nat) _ low W (h.below hW) (hPr.below hW)
    unfold OpPost at this
    rw [with_fine hF (fun y hy => by
      simp only [List.mem_cons, List.not_mem_nil, or_false] at hy
      rcases hy with rfl | rfl <;> omega), if_pos rfl, Int.toNat_natCast, Int.toNat_natCast, Int.toNat_natCast, Int.toNat_natCast] at this
    exact this
  have HPw : Hid (∀ i, pwS (mulM P D low) (rootN P D low) i < P ^ D) := fun i => by
    cases i with
    | zero =>
      show 1 < P ^ D
      have h1 : P ^ 1 ≤ P ^ D := Nat.pow_le_pow_right (by have := hF.p2; omega) (by omega)
      rw [Nat.pow_one] at h1
      have := hF.p2
      omega
    | succ i => exact mulM_ltq hF _ _
  rw [fault_of hF, if_pos rfl] at hro
  have HRo := Lib.hid hro
  have hp := hF.p2; have hp61 := hF.p61; have hd6 := hF.d6
  have HQ := Lib.hid hF.q64
  have HFar : Hid ((P ^ D - 1) / (P - 1) ≤ 60) := hfar
  have ed : decide ((D : Int) < 3) = false := by simp; omega
  clear h hPr hro hF hfar hrl
  go_enter Tryd.func17, Tryd.ntmps17
  go_wp2_with fail
  refine HRo.out.mono ?_
  rintro e w1 ⟨rfl, hb1⟩
  have HR := Lib.hid (HS.out.step hb1)
  obtain ⟨f0, f1, f2⟩ := HR.out.cells
  clear hb1
  go_wp2_with fail
  go_loop [7, 29] (fun s i => ∃ k q : Nat, k ≤ D ∧ i = .int .i64 k ∧ s = .int .i64 q ∧ q = P ^ k) (fun _ i => D - (intOf i).toNat)
  case atStart => exact ⟨0, 1, by omega, rfl, rfl, by simp⟩
  case round =>
    obtain ⟨k, q, hk, rfl, rfl, hq⟩ := hrel
    have HQk := Lib.hid hq
    have hq64 : q ≤ 64 := by
      have h1 : P ^ k ≤ P ^ D := Nat.pow_le_pow_right (by omega) hk
      have := HQ.out; omega
    have hq1 : 1 ≤ q := by rw [hq]; exact pow_one_le (by omega) k
    have hm : q * P ≤ 64 * 61 := Nat.mul_le_mul hq64 hp61
    have hv := mul_val (q := q) (p := P) (by omega)
    have HN : Hid (q * P = P ^ (k + 1)) := by show _ = _; rw [Nat.pow_succ, hq]
    obtain ⟨m, hm2⟩ : ∃ m, m = q * P := ⟨_, rfl⟩
    rw [← hm2] at hv hm HN
    clear hm2 hq
    by_cases hlt : k < D
    · go_wp2_with fail
      go_round
      case rel => exact ⟨k + 1, m, by omega, by go_num, by first | exact hv | rfl, HN.out⟩
      case measure => simp [intOf]; omega
    · obtain rfl : k = D := by omega
      obtain ⟨V, hV⟩ : ∃ V, V = (q - 1) / (P - 1) := ⟨_, rfl⟩
      have hV60 : V ≤ 60 := by have := HFar.out; rw [hV, HQk.out]; exact this
      have HVr : Hid (V = ringV P k) := by show _ = _; rw [hV, HQk.out]; rfl
      have hrv := congrArg (Value.int .i64) (ring_val hq1 hq64 hp hV)
      have hdv := ring_div hq1 hp hV
      have hp1 : ¬ (P : Int) - 1 = 0 := by omega
      have hp2' : IntKind.i64.wrap ((P : Int) - 1) = (P : Int) - 1 := IntWalk.i64_in _ (by omega)
      clear hv hV
      go_wp2_with fail
      clear hrv hdv hp2'
      go_loopw [9, 10, 11, 12, 13] (fun u s x _ _ wr => ∃ i : Nat, i ≤ V ∧ s = .int .i64 i ∧ x = .int .i64 (pwS (mulM P k low) (rootN P k low) i : Nat) ∧ Own wr w1.heap.size 3 u (sinL P k low i) ∧ Below w1.heap.size w1 wr) (fun _ s _ _ _ _ => V - (intOf s).toNat)
      case atStart => exact ⟨0, by omega, rfl, rfl, own_nil _ _ _, Below.refl _ _⟩
      case round =>
        obtain ⟨i, hi, rfl, rfl, ho, hb⟩ := hrel
        have HO := Lib.hid ho; have HB := Lib.hid hb
        obtain ⟨ua, ul, uc, rfl⟩ := ho.shape
        clear ho hb
        have HRw := Lib.hid (HR.out.step HB.out)
        have hpw := HPw.out i
        by_cases hlt : i < V
        · obtain ⟨f0, f1, f2⟩ := HRw.out.cells
          obtain ⟨T, hT⟩ : ∃ T, T = traS P k low k 0 (pwS (mulM P k low) (rootN P k low) i) := ⟨_, rfl⟩
          have HTr : Hid (∀ W, Below w.heap.size w W → Calls Tryd.prog 41 #[.agg #[.int .i64 (P : Int), .int .i64 (k : Int), .slice sa low.length sc], .int .i64 (pwS (mulM P k low) (rootN P k low) i : Nat)] W fun e w' => e = .returned (.tuple #[.int .i64 (T : Nat), .int .i64 0]) ∧ Below W.heap.size W w') := fun W hW => by
            rw [hT]; exact HTra.out _ W hpw hW
          have HMl : Hid (∀ W, Below w.heap.size w W → Calls Tryd.prog 28 #[.agg #[.int .i64 (P : Int), .int .i64 (k : Int), .slice sa low.length sc], .int .i64 (pwS (mulM P k low) (rootN P k low) i : Nat), .int .i64 (rootN P k low : Nat)] W fun e w' => e = .returned (.tuple #[.int .i64 (pwS (mulM P k low) (rootN P k low) (i + 1) : Nat), .int .i64 0]) ∧ Below W.heap.size W w') := fun W hW => HMu.out _ W hpw hW
          have HSB : Hid (sinB P k low i = (T == 0)) := by show _ = _; rw [hT]; rfl
          clear hT hpw
          generalize pwS (mulM P k low) (rootN P k low) i = x at *
          by_cases hT0 : T = 0
          · have e1 : (((T : Nat) : Int) == 0) = true := by simp [hT0]
            have HSn : Hid (sinL P k low (i + 1) = sinL P k low i ++ [((i : Nat) : Int)]) := sinL_yes (by rw [HSB.out, hT0]; rfl)
            have HL9 : Hid ((sinL P k low i).length < 1000000000) := by show _ < _; have := sinL_len P k low i; omega
            clear hT0
            go_wp2_with fail
            refine (HTr.out wr HRw.out.bel).mono ?_
            rintro e w2 ⟨rfl, hb2⟩
            have HR2 := Lib.hid (HRw.out.step hb2)
            have HO2 := Lib.hid (HO.out.below hb2)
            have HB2 := Lib.hid (belowTrans HB.out hb2)
            clear hb2 f0 f1 f2
            obtain ⟨f0, f1, f2⟩ := HR2.out.cells
            go_wp2_with (first
              | (at_builtin; refine app_own rfl _ _ rfl rfl (HO2.out.alloc _) _ _ rfl (by rw [World.cell?_alloc_new]; rfl) HL9.out (by rw [World.size_alloc]; exact Nat.le_succ_of_le HB2.out.size) ?_; intro u3 w3 hown hgrow
                 have HO3 : Hid (Own w3 w1.heap.size 3 u3 (sinL P k low (i + 1))) := (by show Own _ _ _ _ _; rw [HSn.out]; exact hown)
                 have HB3 := Lib.hid ((HB2.out.alloc HB2.out.size _).trans (below_grown hgrow (B := w1.heap.size) (fun q hq => (HO2.out.block q hq).1) (by rw [World.size_alloc]; exact Nat.le_succ_of_le HB2.out.size)))
                 have HR3 := Lib.hid (HR.out.step HB3.out)
                 clear hown hgrow f0 f1 f2
                 obtain ⟨f0, f1, f2⟩ := HR3.out.cells))
            refine (HMl.out w3 HR3.out.bel).mono ?_
            rintro e w4 ⟨rfl, hb4⟩
            have HO4 := Lib.hid (HO3.out.below hb4)
            have HB4 := Lib.hid (belowTrans HB3.out hb4)
            clear hb4 f0 f1 f2
            go_wp2_with fail
            go_roundw
            case rel => exact ⟨i + 1, by omega, by go_num, rfl, HO4.out, HB4.out⟩
            case measure => simp [intOf]; omega
          · have e1 : (((T : Nat) : Int) == 0) = false := by simp; omega
            have HSn : Hid (sinL P k low (i + 1) = sinL P k low i) := sinL_no (by rw [HSB.out]; simpa using hT0)
            clear hT0
            go_wp2_with fail
            refine (HTr.out wr HRw.out.bel).mono ?_
            rintro e w2 ⟨rfl, hb2⟩
            have HR2 := Lib.hid (HRw.out.step hb2)
            have HO2 := Lib.hid (HO.out.below hb2)
            have HB2 := Lib.hid (belowTrans HB.out hb2)
            clear hb2 f0 f1 f2
            obtain ⟨f0, f1, f2⟩ := HR2.out.cells
            go_wp2_with fail
            refine (HMl.out w2 HR2.out.bel).mono ?_
            rintro e w4 ⟨rfl, hb4⟩
            have HO4 : Hid (Own w4 w1.heap.size 3 (.slice ua ul uc) (sinL P k low (i + 1))) := by show Own _ _ _ _ _; rw [HSn.out]; exact HO2.out.below hb4
            have HB4 := Lib.hid (belowTrans HB2.out hb4)
            clear hb4 f0 f1 f2
            go_wp2_with fail
            go_roundw
            case rel => exact ⟨i + 1, by omega, by go_num, rfl, HO4.out, HB4.out⟩
            case measure => simp [intOf]; omega
        · obtain rfl : i = V := by omega
          have HIv : Hid (IntsAt wr (.slice ua ul uc) (sinL P k low (ringV P k))) := by
            show IntsAt _ _ _
            rw [← HVr.out]
            exact HO.out.intsAt (by have := sinL_len P k low i; omega)
          go_wp2_with fail
          go_ret3
          exact sg_yes HIv.out HRw.out.bel HVr.out
end Go.Proofs.YtdbfpdhcaiiiaaaDoor

namespace Go.Proofs.YtdbfpdhcaiiiaaaDoor
open Go.RowKit

theorem rrootS_lt {M : Nat → Nat → Nat} {q : Nat} (hq : 1 ≤ q) : ∀ f a, rrootS M q f a < q
  | 0, _ => by show 0 < q; omega
  | f + 1, a => by
    rw [rrootS]
    split
    · split
      · assumption
      · exact rrootS_lt hq f (a + 1)
    · omega
/-- The least root, as the reference finds it. -/
def rootR (p d : Nat) (low : List Int) : Nat := rrootS (timM p d low) (p ^ d) 70 1
def sinBR (p d : Nat) (low : List Int) (i : Nat) : Bool := rtrS p d low d 0 (pwS (timM p d low) (rootR p d low) i) == 0
def sinLR (p d : Nat) (low : List Int) (n : Nat) : List Int := ((List.range n).filter (sinBR p d low)).map fun i => ((i : Nat) : Int)
theorem sinLR_yes {p d : Nat} {low : List Int} {n : Nat} (h : sinBR p d low n = true) : sinLR p d low (n + 1) = sinLR p d low n ++ [((n : Nat) : Int)] := by
  unfold sinLR; rw [List.range_succ, List.filter_append]; simp [h]
theorem sinLR_no {p d : Nat} {low : List Int} {n : Nat} (h : sinBR p d low n = false) : sinLR p d low (n + 1) = sinLR p d low n := by
  unfold sinLR; rw [List.range_succ, List.filter_append]; simp [h]
theorem sinLR_len (p d : Nat) (low : List Int) (n : Nat) : (sinLR p d low n).length ≤ n := by
  unfold sinLR
  have := List.length_filter_le (sinBR p d low) (List.range n)
  simp at this ⊢; omega

set_option maxRecDepth 100000 in
set_option maxHeartbeats 3000000 in
theorem singerOf_bad (p d : Int) (v : Value) (low : List Int) (w : World) (h : IntsAt w v low) (hf : fieldFault p d low ≠ 0 ∨ d < 3) :
    Calls Tryd.prog 24 #[.agg #[.int .i64 p, .int .i64 d, v]] w (SgPost 0 [] (singFault p d low) w) := by
  obtain ⟨sa, sc, rfl, _⟩ := id h
  have HS := Lib.hid (FbRel.begin w p d (.slice sa low.length sc))
  have HFt := Lib.hid (rfault_any p d _ low _ (h.below HS.out.bel))
  clear h
  by_cases h0 : fieldFault p d low = 0
  · have hd : d < 3 := by
      rcases hf with h | h
      · exact absurd h0 h
      · exact h
    have HF : Hid (4 = singFault p d low) := by show _ = _; unfold singFault; rw [if_neg (by simp [h0]), if_pos hd]
    have ed : decide (d < 3) = true := by simpa using hd
    rw [h0] at HFt
    clear h0 hf hd
    go_enter Tryd.func24, Tryd.ntmps24
    go_wp2_with fail
    refine HFt.out.mono ?_
    rintro e w1 ⟨rfl, hb1⟩
    have HR := Lib.hid (HS.out.step hb1)
    obtain ⟨f0, f1, f2⟩ := HR.out.cells
    clear hb1
    go_wp2_with fail
    go_ret3
    exact sg_no HR.out.bel HF.out
  · have HF : Hid (fieldFault p d low = singFault p d low) := by show _ = _; unfold singFault; rw [if_pos h0]
    have e1 : (fieldFault p d low != 0) = true := by simp [h0]
    clear h0 hf
    go_enter Tryd.func24, Tryd.ntmps24
    go_wp2_with fail
    refine HFt.out.mono ?_
    rintro e w1 ⟨rfl, hb1⟩
    have HR := Lib.hid (HS.out.step hb1)
    clear hb1
    go_wp2_with fail
    go_ret3
    exact sg_no HR.out.bel HF.out

set_option maxRecDepth 100000 in
set_option maxHeartbeats 4000000 in
theorem singerOf_far (P D : Nat) (v : Value) (low : List Int) (w : World) (h : IntsAt w v low) (hF : IsField P D low) (h3 : 3 ≤ D) (hfar : 60 < ringV P D) :
    Calls Tryd.prog 24 #[.agg #[.int .i64 P, .int .i64 D, v]] w (SgPost 0 [] (singFault P D low) w) := by
  obtain ⟨sa, sc, rfl, _⟩ := id h
  have HS := Lib.hid (FbRel.begin w P D (.slice sa low.length sc))
  have hft := rfault_any P D _ low _ (h.below HS.out.bel)
  rw [fault_of hF] at hft
  have HFt := Lib.hid hft
  have HSz : Hid (∀ W, Calls Tryd.prog 32 #[.agg #[.int .i64 P, .int .i64 D, .slice sa low.length sc]] W fun e w' => e = .returned (.int .i64 (P ^ D : Nat)) ∧ Below W.heap.size W w') := fun W => by
    have := size_any P D (.slice sa low.length sc) W ⟨_, _, _, rfl⟩
    rw [hF.q] at this; exact this
  have HF : Hid (3 = singFault P D low) := by show _ = _; unfold singFault; rw [if_neg (by simp [fault_of hF]), if_neg (by omega), if_pos (by simpa using hfar)]
  have hp := hF.p2
  have hq64 := hF.q64
  have hq1 : 1 ≤ P ^ D := pow_one_le (by omega) D
  have ed : decide ((D : Int) < 3) = false := by simp; omega
  obtain ⟨V, hV⟩ : ∃ V, V = (P ^ D - 1) / (P - 1) := ⟨_, rfl⟩
  have HVr : Hid (V = ringV P D) := hV
  have hV60 : 60 < V := by rw [HVr.out]; exact hfar
  have hdv := ring_div hq1 hp hV
  have hrv := congrArg (Value.int .i64) (ring_val hq1 hq64 hp hV)
  have hp1 : ¬ (P : Int) - 1 = 0 := by omega
  have hp2' : IntKind.i64.wrap ((P : Int) - 1) = (P : Int) - 1 := IntWalk.i64_in _ (by have := hF.p61; omega)
  have hp61 := hF.p61
  clear h hft hF hfar hV
  obtain ⟨q, hq⟩ : ∃ q, q = P ^ D := ⟨_, rfl⟩
  rw [← hq] at HSz hq64 hq1 hdv hrv
  clear hq
  go_enter Tryd.func24, Tryd.ntmps24
  go_wp2_with fail
  refine HFt.out.mono ?_
  rintro e w1 ⟨rfl, hb1⟩
  have HR := Lib.hid (HS.out.step hb1)
  obtain ⟨f0, f1, f2⟩ := HR.out.cells
  clear hb1
  go_wp2_with fail
  refine (HSz.out _).mono ?_
  rintro e w2 ⟨rfl, hb2⟩
  have HR2 := Lib.hid (HR.out.step hb2)
  clear hb2 f0 f1 f2
  obtain ⟨f0, f1, f2⟩ := HR2.out.cells
  go_wp2_with fail
  go_ret3
  exact sg_no HR2.out.bel HF.out

set_option maxRecDepth 100000 in
set_option maxHeartbeats 4000000 in
theorem singerOf_yes (P D : Nat) (v : Value) (low : List Int) (w : World) (h : IntsAt w v low) (hF : IsField P D low) (h3 : 3 ≤ D) (hfar : ringV P D ≤ 60) :
    Calls Tryd.prog 24 #[.agg #[.int .i64 P, .int .i64 D, v]] w (SgPost (ringV P D : Nat) (sinLR P D low (ringV P D)) 0 w) := by
  obtain ⟨sa, sc, rfl, _⟩ := id h
  have HS := Lib.hid (FbRel.begin w P D (.slice sa low.length sc))
  have hft := rfault_any P D _ low _ (h.below HS.out.bel)
  rw [fault_of hF] at hft
  have HFt := Lib.hid hft
  have HSz : Hid (∀ W, Calls Tryd.prog 32 #[.agg #[.int .i64 P, .int .i64 D, .slice sa low.length sc]] W fun e w' => e = .returned (.int .i64 (P ^ D : Nat)) ∧ Below W.heap.size W w') := fun W => by
    have := size_any P D (.slice sa low.length sc) W ⟨_, _, _, rfl⟩
    rw [hF.q] at this; exact this
  have hq64' := hF.q64
  have HRt : Hid (∀ W, Below w.heap.size w W → Calls Tryd.prog 46 #[.agg #[.int .i64 P, .int .i64 D, .slice sa low.length sc]] W fun e w' => e = .returned (.int .i64 (rootR P D low : Nat)) ∧ Below W.heap.size W w') := fun W hW => rroot_any P D _ low W (h.below hW) hF
  have hrl : rootR P D low < P ^ D := rrootS_lt (pow_one_le (by have := hF.p2; omega) D) 70 1
  have HTra : Hid (∀ (x : Nat) W, x < P ^ D → Below w.heap.size w W → Calls Tryd.prog 47 #[.agg #[.int .i64 P, .int .i64 D, .slice sa low.length sc], .int .i64 (x : Int)] W fun e w' => e = .returned (.int .i64 (rtrS P D low D 0 x : Nat)) ∧ Below W.heap.size W w') :=
    fun x W hx hW => rtrace_any P D x _ low W (h.below hW) hF hx
  have HMu : Hid (∀ (x : Nat) W, x < P ^ D → Below w.heap.size w W → Calls Tryd.prog 33 #[.agg #[.int .i64 P, .int .i64 D, .slice sa low.length sc], .int .i64 (x : Int), .int .i64 (rootR P D low : Nat)] W fun e w' => e = .returned (.int .i64 (timM P D low x (rootR P D low) : Nat)) ∧ Below W.heap.size W w') :=
    fun x W hx hW => rtimes_any P D x (rootR P D low) _ low W (h.below hW) hF (by omega) (by omega)
  have HPw : Hid (∀ i, pwS (timM P D low) (rootR P D low) i < P ^ D) := fun i => by
    cases i with
    | zero =>
      show 1 < P ^ D
      have h1 : P ^ 1 ≤ P ^ D := Nat.pow_le_pow_right (by have := hF.p2; omega) (by omega)
      rw [Nat.pow_one] at h1
      have := hF.p2
      omega
    | succ i => exact timM_lt hF _ _
  have hp := hF.p2
  have hq64 := hF.q64
  have hq1 : 1 ≤ P ^ D := pow_one_le (by omega) D
  have ed : decide ((D : Int) < 3) = false := by simp; omega
  obtain ⟨V, hV⟩ : ∃ V, V = (P ^ D - 1) / (P - 1) := ⟨_, rfl⟩
  have HVr : Hid (V = ringV P D) := hV
  have hV60 : V ≤ 60 := by rw [HVr.out]; exact hfar
  have hdv := ring_div hq1 hp hV
  have hrv := congrArg (Value.int .i64) (ring_val hq1 hq64 hp hV)
  have hp1 : ¬ (P : Int) - 1 = 0 := by omega
  have hp2' : IntKind.i64.wrap ((P : Int) - 1) = (P : Int) - 1 := IntWalk.i64_in _ (by have := hF.p61; omega)
  have hp61 := hF.p61
  clear h hft hF hfar hV
  obtain ⟨q, hq⟩ : ∃ q, q = P ^ D := ⟨_, rfl⟩
  rw [← hq] at HSz hq64 hq1 hdv hrv HTra HMu HPw
  clear hq hrl hq64'
  go_enter Tryd.func24, Tryd.ntmps24
  go_wp2_with fail
  refine HFt.out.mono ?_
  rintro e w1 ⟨rfl, hb1⟩
  have HR := Lib.hid (HS.out.step hb1)
  obtain ⟨f0, f1, f2⟩ := HR.out.cells
  clear hb1
  go_wp2_with fail
  refine (HSz.out _).mono ?_
  rintro e w2 ⟨rfl, hb2⟩
  have HR2 := Lib.hid (HR.out.step hb2)
  clear hb2 f0 f1 f2
  obtain ⟨f0, f1, f2⟩ := HR2.out.cells
  go_wp2_with fail
  refine (HRt.out _ HR2.out.bel).mono ?_
  rintro e w3 ⟨rfl, hb3⟩
  have HR3 := Lib.hid (HR2.out.step hb3)
  clear hb3 f0 f1 f2
  go_wp2_with fail
  clear hrv hdv hp2'
  go_loopw [9, 10, 11, 12] (fun x u s _ wr => ∃ i : Nat, i ≤ V ∧ s = .int .i64 i ∧ x = .int .i64 (pwS (timM P D low) (rootR P D low) i : Nat) ∧ Own wr w3.heap.size 3 u (sinLR P D low i) ∧ Below w3.heap.size w3 wr) (fun _ _ s _ _ => V - (intOf s).toNat)
  case atStart => exact ⟨0, by omega, rfl, rfl, own_nil _ _ _, Below.refl _ _⟩
  case round =>
    obtain ⟨i, hi, rfl, rfl, ho, hb⟩ := hrel
    have HO := Lib.hid ho; have HB := Lib.hid hb
    obtain ⟨ua, ul, uc, rfl⟩ := ho.shape
    clear ho hb
    have HRw := Lib.hid (HR3.out.step HB.out)
    have hpw := HPw.out i
    by_cases hlt : i < V
    · obtain ⟨f0, f1, f2⟩ := HRw.out.cells
      obtain ⟨T, hT⟩ : ∃ T, T = rtrS P D low D 0 (pwS (timM P D low) (rootR P D low) i) := ⟨_, rfl⟩
      have HTr : Hid (∀ W, Below w.heap.size w W → Calls Tryd.prog 47 #[.agg #[.int .i64 (P : Int), .int .i64 (D : Int), .slice sa low.length sc], .int .i64 (pwS (timM P D low) (rootR P D low) i : Nat)] W fun e w' => e = .returned (.int .i64 (T : Nat)) ∧ Below W.heap.size W w') := fun W hW => by
        rw [hT]; exact HTra.out _ W hpw hW
      have HMl : Hid (∀ W, Below w.heap.size w W → Calls Tryd.prog 33 #[.agg #[.int .i64 (P : Int), .int .i64 (D : Int), .slice sa low.length sc], .int .i64 (pwS (timM P D low) (rootR P D low) i : Nat), .int .i64 (rootR P D low : Nat)] W fun e w' => e = .returned (.int .i64 (pwS (timM P D low) (rootR P D low) (i + 1) : Nat)) ∧ Below W.heap.size W w') := fun W hW => HMu.out _ W hpw hW
      have HSB : Hid (sinBR P D low i = (T == 0)) := by show _ = _; rw [hT]; rfl
      clear hT hpw
      generalize pwS (timM P D low) (rootR P D low) i = x at *
      by_cases hT0 : T = 0
      · have e1 : (((T : Nat) : Int) == 0) = true := by simp [hT0]
        have HSn : Hid (sinLR P D low (i + 1) = sinLR P D low i ++ [((i : Nat) : Int)]) := sinLR_yes (by rw [HSB.out, hT0]; rfl)
        have HL9 : Hid ((sinLR P D low i).length < 1000000000) := by show _ < _; have := sinLR_len P D low i; omega
        clear hT0
        go_wp2_with fail
        refine (HTr.out wr HRw.out.bel).mono ?_
        rintro e w4 ⟨rfl, hb4⟩
        have HR4 := Lib.hid (HRw.out.step hb4)
        have HO4 := Lib.hid (HO.out.below hb4)
        have HB4 := Lib.hid (belowTrans HB.out hb4)
        clear hb4 f0 f1 f2
        obtain ⟨f0, f1, f2⟩ := HR4.out.cells
        go_wp2_with (first
          | (at_builtin; refine app_own rfl _ _ rfl rfl (HO4.out.alloc _) _ _ rfl (by rw [World.cell?_alloc_new]; rfl) HL9.out (by rw [World.size_alloc]; exact Nat.le_succ_of_le HB4.out.size) ?_; intro u5 w5 hown hgrow
             have HO5 : Hid (Own w5 w3.heap.size 3 u5 (sinLR P D low (i + 1))) := (by show Own _ _ _ _ _; rw [HSn.out]; exact hown)
             have HB5 := Lib.hid ((HB4.out.alloc HB4.out.size _).trans (below_grown hgrow (B := w3.heap.size) (fun q hq => (HO4.out.block q hq).1) (by rw [World.size_alloc]; exact Nat.le_succ_of_le HB4.out.size)))
             have HR5 := Lib.hid (HR3.out.step HB5.out)
             clear hown hgrow f0 f1 f2
             obtain ⟨f0, f1, f2⟩ := HR5.out.cells))
        refine (HMl.out w5 HR5.out.bel).mono ?_
        rintro e w6 ⟨rfl, hb6⟩
        have HO6 := Lib.hid (HO5.out.below hb6)
        have HB6 := Lib.hid (belowTrans HB5.out hb6)
        clear hb6 f0 f1 f2
        go_wp2_with fail
        go_roundw
        case rel => exact ⟨i + 1, by omega, by go_num, rfl, HO6.out, HB6.out⟩
        case measure => simp [intOf]; omega
      · have e1 : (((T : Nat) : Int) == 0) = false := by simp; omega
        have HSn : Hid (sinLR P D low (i + 1) = sinLR P D low i) := sinLR_no (by rw [HSB.out]; simpa using hT0)
        clear hT0
        go_wp2_with fail
        refine (HTr.out wr HRw.out.bel).mono ?_
        rintro e w4 ⟨rfl, hb4⟩
        have HR4 := Lib.hid (HRw.out.step hb4)
        have HO4 := Lib.hid (HO.out.below hb4)
        have HB4 := Lib.hid (belowTrans HB.out hb4)
        clear hb4 f0 f1 f2
        obtain ⟨f0, f1, f2⟩ := HR4.out.cells
        go_wp2_with fail
        refine (HMl.out w4 HR4.out.bel).mono ?_
        rintro e w6 ⟨rfl, hb6⟩
        have HO6 : Hid (Own w6 w3.heap.size 3 (.slice ua ul uc) (sinLR P D low (i + 1))) := by show Own _ _ _ _ _; rw [HSn.out]; exact HO4.out.below hb6
        have HB6 := Lib.hid (belowTrans HB4.out hb6)
        clear hb6 f0 f1 f2
        go_wp2_with fail
        go_roundw
        case rel => exact ⟨i + 1, by omega, by go_num, rfl, HO6.out, HB6.out⟩
        case measure => simp [intOf]; omega
    · obtain rfl : i = V := by omega
      have HIv : Hid (IntsAt wr (.slice ua ul uc) (sinLR P D low (ringV P D))) := by
        show IntsAt _ _ _
        rw [← HVr.out]
        exact HO.out.intsAt (by have := sinLR_len P D low i; omega)
      go_wp2_with fail
      go_ret3
      exact sg_yes HIv.out HRw.out.bel HVr.out
end Go.Proofs.YtdbfpdhcaiiiaaaDoor

namespace Go.Proofs.YtdbfpdhcaiiiaaaDoor
open Go.RowKit

def traG (A : Nat → Nat → Nat) (P : Nat → Nat) : Nat → Nat → Nat → Nat
  | 0, s, _ => s
  | k + 1, s, a => traG A P k (A s a) (P a)
theorem traS_G {p d : Nat} {low : List Int} (hF : IsField p d low) : ∀ k s a, traS p d low k s a = traG (addC p d) (fun a => powS (mulC p (lowN low)) 7 1 a p) k s a
  | 0, _, _ => rfl
  | k + 1, s, a => by rw [traS, traG, traS_G hF k, addV_of, mulM_of hF]
theorem timM_of {p d : Nat} {low : List Int} (hF : IsField p d low) : timM p d low = timC p (lowN low) := by
  funext a b; exact timesM_of hF a b
theorem rtrS_G {p d : Nat} {low : List Int} (hF : IsField p d low) : ∀ k s a, rtrS p d low k s a = traG (addC p d) (fun a => rpwS (timC p (lowN low)) a p) k s a
  | 0, _, _ => rfl
  | k + 1, s, a => by rw [rtrS, traG, rtrS_G hF k, addV_of, timM_of hF]
/-- A number made plain before it is used. -/
def fce {α : Type} (n : Nat) (f : Nat → α) : α := match n with
  | 0 => f 0
  | k + 1 => f (k + 1)
theorem fce_eq {α : Type} (n : Nat) (f : Nat → α) : fce n f = f n := by cases n <;> rfl
def traF (A : Nat → Nat → Nat) (P : Nat → Nat) : Nat → Nat → Nat → Nat
  | 0, s, _ => s
  | k + 1, s, a => fce (A s a) fun s' => fce (P a) fun a' => traF A P k s' a'
theorem traF_eq (A : Nat → Nat → Nat) (P : Nat → Nat) : ∀ k s a, traF A P k s a = traG A P k s a
  | 0, _, _ => rfl
  | k + 1, s, a => by rw [traF, fce_eq, fce_eq, traF_eq A P k, traG]
def powF (M : Nat → Nat → Nat) : Nat → Nat → Nat → Nat → Nat
  | 0, out, _, _ => out
  | f + 1, out, a, n => if n = 0 then out else fce (if n % 2 = 1 then M out a else out) fun o => fce (M a a) fun a' => powF M f o a' (n / 2)
theorem powF_eq (M : Nat → Nat → Nat) : ∀ f o a n, powF M f o a n = powS M f o a n
  | 0, _, _, _ => rfl
  | f + 1, o, a, n => by rw [powF, powS]; split; · rfl
                         rw [fce_eq, fce_eq, powF_eq M f]
def rpwF (M : Nat → Nat → Nat) (a : Nat) : Nat → Nat
  | 0 => 1
  | i + 1 => fce (rpwF M a i) fun x => M x a
theorem rpwF_eq (M : Nat → Nat → Nat) (a : Nat) : ∀ i, rpwF M a i = rpwS M a i
  | 0 => rfl
  | i + 1 => by rw [rpwF, fce_eq, rpwF_eq M a i, rpwS]
def rordF (M : Nat → Nat → Nat) (a q : Nat) : Nat → Nat → Nat → Nat × Nat
  | 0, x, n => (x, n)
  | f + 1, x, n => if x ≠ 1 ∧ n < q then fce (M x a) fun y => rordF M a q f y (n + 1) else (x, n)
theorem rordF_eq (M : Nat → Nat → Nat) (a q : Nat) : ∀ f x n, rordF M a q f x n = rordS M a q f x n
  | 0, _, _ => rfl
  | f + 1, x, n => by rw [rordF, rordS, fce_eq, rordF_eq M a q f]
def rootedF (M : Nat → Nat → Nat) (q a : Nat) : Bool := match rordF M a q 70 a 1 with
  | (x, n) => x == 1 && n == q - 1
def rrootF (M : Nat → Nat → Nat) (q : Nat) : Nat → Nat → Nat
  | 0, _ => 0
  | f + 1, a => if a < q then (if rootedF M q a then a else rrootF M q f (a + 1)) else 0
theorem rrootF_eq (M : Nat → Nat → Nat) (q : Nat) : ∀ f a, rrootF M q f a = rrootS M q f a
  | 0, _ => rfl
  | f + 1, a => by
    rw [rrootF, rrootS, rrootF_eq M q f]
    unfold rootedF
    rw [rordF_eq]
    simp only [Bool.and_eq_true, beq_iff_eq]
/-- The powers whose trace is naught, one by one. -/
def sinF (M : Nat → Nat → Nat) (T : Nat → Bool) (r : Nat) : Nat → Nat → List Bool
  | 0, _ => []
  | n + 1, a => T a :: fce (M a r) fun b => sinF M T r n b
theorem sinF_get (M : Nat → Nat → Nat) (T : Nat → Bool) (r : Nat) : ∀ n k i, i < n → (sinF M T r n (pwS M r k))[i]? = some (T (pwS M r (k + i)))
  | 0, _, _, h => by omega
  | n + 1, k, 0, _ => by rw [sinF]; rfl
  | n + 1, k, i + 1, h => by
    rw [sinF, fce_eq, List.getElem?_cons_succ]
    have := sinF_get M T r n (k + 1) i (by omega)
    rw [show pwS M r (k + 1) = M (pwS M r k) r from rfl] at this
    rw [this, show k + 1 + i = k + (i + 1) by omega]
def trB (p d : Nat) (P : Nat → Nat) (a : Nat) : Bool := traF (addC p d) P d 0 a == 0
/-- Both sets, by their roots. -/
def singEq (p d : Nat) : Bool := (lows p d).all fun l => !irrC p d l || (List.range (p ^ d)).any fun r =>
  rootS (mulC p l) (p ^ d) 62 1 == some r && (rrootF (timC p l) (p ^ d) 70 1 == r &&
    sinF (mulC p l) (trB p d fun a => powF (mulC p l) 7 1 a p) r (ringV p d) 1 == sinF (timC p l) (trB p d fun a => rpwF (timC p l) a p) r (ringV p d) 1)
theorem se23 : singEq 2 3 = true := by decide +kernel
theorem se24 : singEq 2 4 = true := by decide +kernel
theorem se33 : singEq 3 3 = true := by decide +kernel
theorem se25 : singEq 2 5 = true := by decide +kernel
theorem sin_same {p d : Nat} {low : List Int} (hF : IsField p d low) (h : singEq p d = true) : sinL p d low (ringV p d) = sinLR p d low (ringV p d) := by
  have h1 := List.all_eq_true.1 h _ hF.mem
  rw [hF.irrC, Bool.not_true, Bool.false_or, List.any_eq_true] at h1
  obtain ⟨r, _, h1⟩ := h1
  simp only [Bool.and_eq_true, beq_iff_eq] at h1
  obtain ⟨ha, hb, hc⟩ := h1
  rw [rrootF_eq] at hb
  have hr : rootN p d low = r := by unfold rootN; rw [mulM_of hF, ha]; rfl
  have hrr : rootR p d low = r := by unfold rootR; rw [timM_of hF, hb]
  unfold sinL sinLR
  congr 1
  refine List.filter_congr fun i hi => ?_
  have hi := List.mem_range.1 hi
  have h1 := sinF_get (mulC p (lowN low)) (trB p d fun a => powF (mulC p (lowN low)) 7 1 a p) r (ringV p d) 0 i hi
  have h2 := sinF_get (timC p (lowN low)) (trB p d fun a => rpwF (timC p (lowN low)) a p) r (ringV p d) 0 i hi
  rw [show pwS (mulC p (lowN low)) r 0 = 1 from rfl, Nat.zero_add] at h1
  rw [show pwS (timC p (lowN low)) r 0 = 1 from rfl, Nat.zero_add, ← hc, h1, Option.some.injEq] at h2
  unfold trB at h2
  rw [traF_eq, traF_eq] at h2
  simp only [powF_eq, rpwF_eq] at h2
  unfold sinB sinBR
  rw [traS_G hF, rtrS_G hF, hr, hrr, mulM_of hF, timM_of hF]
  exact h2
theorem sinL_ref {p d : Nat} {low : List Int} (hF : IsField p d low) (h3 : 3 ≤ d) (hv : ringV p d ≤ 60) : sinL p d low (ringV p d) = sinLR p d low (ringV p d) := by
  rcases sing_cases hF h3 hv with ⟨rfl, rfl⟩ | ⟨rfl, rfl⟩ | ⟨rfl, rfl⟩ | ⟨rfl, rfl⟩
  · exact sin_same hF se23
  · exact sin_same hF se24
  · exact sin_same hF se25
  · exact sin_same hF se33
end Go.Proofs.YtdbfpdhcaiiiaaaDoor
