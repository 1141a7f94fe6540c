/-
  Contract: the reference's SingerOf. No condition.
-/
import Derived.Test.YtdbfpdhcaiiiaaaDoorPDifferMade25
import Derived.Test.YtdbfpdhcaiiiaaaDoorPDifferMade36
namespace Go.Proofs.YtdbfpdhcaiiiaaaDoor
open Go.RowKit

theorem rrootS_lt {M : Nat → Nat → Nat} {q : Nat} (hq : 1 ≤ q) : ∀ f a, rrootS M q f a < q
  | 0, _ => by show 0 < q; omega
  | f + 1, a => by
    rw [rrootS]
    split
    · split
      · assumption
      · exact rrootS_lt hq f (a + 1)
    · omega
/-- The least root, as the reference finds it. -/
def rootR (p d : Nat) (low : List Int) : Nat := rrootS (timM p d low) (p ^ d) 70 1
def sinBR (p d : Nat) (low : List Int) (i : Nat) : Bool := rtrS p d low d 0 (pwS (timM p d low) (rootR p d low) i) == 0
def sinLR (p d : Nat) (low : List Int) (n : Nat) : List Int := ((List.range n).filter (sinBR p d low)).map fun i => ((i : Nat) : Int)
theorem sinLR_yes {p d : Nat} {low : List Int} {n : Nat} (h : sinBR p d low n = true) : sinLR p d low (n + 1) = sinLR p d low n ++ [((n : Nat) : Int)] := by
  unfold sinLR; rw [List.range_succ, List.filter_append]; simp [h]
theorem sinLR_no {p d : Nat} {low : List Int} {n : Nat} (h : sinBR p d low n = false) : sinLR p d low (n + 1) = sinLR p d low n := by
  unfold sinLR; rw [List.range_succ, List.filter_append]; simp [h]
theorem sinLR_len (p d : Nat) (low : List Int) (n : Nat) : (sinLR p d low n).length ≤ n := by
  unfold sinLR
  have := List.length_filter_le (sinBR p d low) (List.range n)
  simp at this ⊢; omega

set_option maxRecDepth 100000 in
set_option maxHeartbeats 3000000 in
theorem singerOf_bad (p d : Int) (v : Value) (low : List Int) (w : World) (h : IntsAt w v low) (hf : fieldFault p d low ≠ 0 ∨ d < 3) :
    Calls Tryd.prog 24 #[.agg #[.int .i64 p, .int .i64 d, v]] w (SgPost 0 [] (singFault p d low) w) := by
  obtain ⟨sa, sc, rfl, _⟩ := id h
  have HS := Lib.hid (FbRel.begin w p d (.slice sa low.length sc))
  have HFt := Lib.hid (rfault_any p d _ low _ (h.below HS.out.bel))
  clear h
  by_cases h0 : fieldFault p d low = 0
  · have hd : d < 3 := by
      rcases hf with h | h
      · exact absurd h0 h
      · exact h
    have HF : Hid (4 = singFault p d low) := by show _ = _; unfold singFault; rw [if_neg (by simp [h0]), if_pos hd]
    have ed : decide (d < 3) = true := by simpa using hd
    rw [h0] at HFt
    clear h0 hf hd
    go_enter Tryd.func24, Tryd.ntmps24
    go_wp2_with fail
    refine HFt.out.mono ?_
    rintro e w1 ⟨rfl, hb1⟩
    have HR := Lib.hid (HS.out.step hb1)
    obtain ⟨f0, f1, f2⟩ := HR.out.cells
    clear hb1
    go_wp2_with fail
    go_ret3
    exact sg_no HR.out.bel HF.out
  · have HF : Hid (fieldFault p d low = singFault p d low) := by show _ = _; unfold singFault; rw [if_pos h0]
    have e1 : (fieldFault p d low != 0) = true := by simp [h0]
    clear h0 hf
    go_enter Tryd.func24, Tryd.ntmps24
    go_wp2_with fail
    refine HFt.out.mono ?_
    rintro e w1 ⟨rfl, hb1⟩
    have HR := Lib.hid (HS.out.step hb1)
    clear hb1
    go_wp2_with fail
    go_ret3
    exact sg_no HR.out.bel HF.out

set_option maxRecDepth 100000 in
set_option maxHeartbeats 4000000 in
theorem singerOf_far (P D : Nat) (v : Value) (low : List Int) (w : World) (h : IntsAt w v low) (hF : IsField P D low) (h3 : 3 ≤ D) (hfar : 60 < ringV P D) :
    Calls Tryd.prog 24 #[.agg #[.int .i64 P, .int .i64 D, v]] w (SgPost 0 [] (singFault P D low) w) := by
  obtain ⟨sa, sc, rfl, _⟩ := id h
  have HS := Lib.hid (FbRel.begin w P D (.slice sa low.length sc))
  have hft := rfault_any P D _ low _ (h.below HS.out.bel)
  rw [fault_of hF] at hft
  have HFt := Lib.hid hft
  have HSz : Hid (∀ W, Calls Tryd.prog 32 #[.agg #[.int .i64 P, .int .i64 D, .slice sa low.length sc]] W fun e w' => e = .returned (.int .i64 (P ^ D : Nat)) ∧ Below W.heap.size W w') := fun W => by
    have := size_any P D (.slice sa low.length sc) W ⟨_, _, _, rfl⟩
    rw [hF.q] at this; exact this
  have HF : Hid (3 = singFault P D low) := by show _ = _; unfold singFault; rw [if_neg (by simp [fault_of hF]), if_neg (by omega), if_pos (by simpa using hfar)]
  have hp := hF.p2
  have hq64 := hF.q64
  have hq1 : 1 ≤ P ^ D := pow_one_le (by omega) D
  have ed : decide ((D : Int) < 3) = false := by simp; omega
  obtain ⟨V, hV⟩ : ∃ V, V = (P ^ D - 1) / (P - 1) := ⟨_, rfl⟩
  have HVr : Hid (V = ringV P D) := hV
  have hV60 : 60 < V := by rw [HVr.out]; exact hfar
  have hdv := ring_div hq1 hp hV
  have hrv := congrArg (Value.int .i64) (ring_val hq1 hq64 hp hV)
  have hp1 : ¬ (P : Int) - 1 = 0 := by omega
  have hp2' : IntKind.i64.wrap ((P : Int) - 1) = (P : Int) - 1 := IntWalk.i64_in _ (by have := hF.p61; omega)
  have hp61 := hF.p61
  clear h hft hF hfar hV
  obtain ⟨q, hq⟩ : ∃ q, q = P ^ D := ⟨_, rfl⟩
  rw [← hq] at HSz hq64 hq1 hdv hrv
  clear hq
  go_enter Tryd.func24, Tryd.ntmps24
  go_wp2_with fail
  refine HFt.out.mono ?_
  rintro e w1 ⟨rfl, hb1⟩
  have HR := Lib.hid (HS.out.step hb1)
  obtain ⟨f0, f1, f2⟩ := HR.out.cells
  clear hb1
  go_wp2_with fail
  refine (HSz.out _).mono ?_
  rintro e w2 ⟨rfl, hb2⟩
  have HR2 := Lib.hid (HR.out.step hb2)
  clear hb2 f0 f1 f2
  obtain ⟨f0, f1, f2⟩ := HR2.out.cells
  go_wp2_with fail
  go_ret3
  exact sg_no HR2.out.bel HF.out

set_option maxRecDepth 100000 in
set_option maxHeartbeats 4000000 in
theorem singerOf_yes (P D : Nat) (v : Value) (low : List Int) (w : World) (h : IntsAt w v low) (hF : IsField P D low) (h3 : 3 ≤ D) (hfar : ringV P D ≤ 60) :
    Calls Tryd.prog 24 #[.agg #[.int .i64 P, .int .i64 D, v]] w (SgPost (ringV P D : Nat) (sinLR P D low (ringV P D)) 0 w) := by
  obtain ⟨sa, sc, rfl, _⟩ := id h
  have HS := Lib.hid (FbRel.begin w P D (.slice sa low.length sc))
  have hft := rfault_any P D _ low _ (h.below HS.out.bel)
  rw [fault_of hF] at hft
  have HFt := Lib.hid hft
  have HSz : Hid (∀ W, Calls Tryd.prog 32 #[.agg #[.int .i64 P, .int .i64 D, .slice sa low.length sc]] W fun e w' => e = .returned (.int .i64 (P ^ D : Nat)) ∧ Below W.heap.size W w') := fun W => by
    have := size_any P D (.slice sa low.length sc) W ⟨_, _, _, rfl⟩
    rw [hF.q] at this; exact this
  have hq64' := hF.q64
  have HRt : Hid (∀ W, Below w.heap.size w W → Calls Tryd.prog 46 #[.agg #[.int .i64 P, .int .i64 D, .slice sa low.length sc]] W fun e w' => e = .returned (.int .i64 (rootR P D low : Nat)) ∧ Below W.heap.size W w') := fun W hW => rroot_any P D _ low W (h.below hW) hF
  have hrl : rootR P D low < P ^ D := rrootS_lt (pow_one_le (by have := hF.p2; omega) D) 70 1
  have HTra : Hid (∀ (x : Nat) W, x < P ^ D → Below w.heap.size w W → Calls Tryd.prog 47 #[.agg #[.int .i64 P, .int .i64 D, .slice sa low.length sc], .int .i64 (x : Int)] W fun e w' => e = .returned (.int .i64 (rtrS P D low D 0 x : Nat)) ∧ Below W.heap.size W w') :=
    fun x W hx hW => rtrace_any P D x _ low W (h.below hW) hF hx
  have HMu : Hid (∀ (x : Nat) W, x < P ^ D → Below w.heap.size w W → Calls Tryd.prog 33 #[.agg #[.int .i64 P, .int .i64 D, .slice sa low.length sc], .int .i64 (x : Int), .int .i64 (rootR P D low : Nat)] W fun e w' => e = .returned (.int .i64 (timM P D low x (rootR P D low) : Nat)) ∧ Below W.heap.size W w') :=
    fun x W hx hW => rtimes_any P D x (rootR P D low) _ low W (h.below hW) hF (by omega) (by omega)
  have HPw : Hid (∀ i, pwS (timM P D low) (rootR P D low) i < P ^ D) := fun i => by
    cases i with
    | zero =>
      show 1 < P ^ D
      have h1 : P ^ 1 ≤ P ^ D := Nat.pow_le_pow_right (by have := hF.p2; omega) (by omega)
      rw [Nat.pow_one] at h1
      have := hF.p2
      omega
    | succ i => exact timM_lt hF _ _
  have hp := hF.p2
  have hq64 := hF.q64
  have hq1 : 1 ≤ P ^ D := pow_one_le (by omega) D
  have ed : decide ((D : Int) < 3) = false := by simp; omega
  obtain ⟨V, hV⟩ : ∃ V, V = (P ^ D - 1) / (P - 1) := ⟨_, rfl⟩
  have HVr : Hid (V = ringV P D) := hV
  have hV60 : V ≤ 60 := by rw [HVr.out]; exact hfar
  have hdv := ring_div hq1 hp hV
  have hrv := congrArg (Value.int .i64) (ring_val hq1 hq64 hp hV)
  have hp1 : ¬ (P : Int) - 1 = 0 := by omega
  have hp2' : IntKind.i64.wrap ((P : Int) - 1) = (P : Int) - 1 := IntWalk.i64_in _ (by have := hF.p61; omega)
  have hp61 := hF.p61
  clear h hft hF hfar hV
  obtain ⟨q, hq⟩ : ∃ q, q = P ^ D := ⟨_, rfl⟩
  rw [← hq] at HSz hq64 hq1 hdv hrv HTra HMu HPw
  clear hq hrl hq64'
  go_enter Tryd.func24, Tryd.ntmps24
  go_wp2_with fail
  refine HFt.out.mono ?_
  rintro e w1 ⟨rfl, hb1⟩
  have HR := Lib.hid (HS.out.step hb1)
  obtain ⟨f0, f1, f2⟩ := HR.out.cells
  clear hb1
  go_wp2_with fail
  refine (HSz.out _).mono ?_
  rintro e w2 ⟨rfl, hb2⟩
  have HR2 := Lib.hid (HR.out.step hb2)
  clear hb2 f0 f1 f2
  obtain ⟨f0, f1, f2⟩ := HR2.out.cells
  go_wp2_with fail
  refine (HRt.out _ HR2.out.bel).mono ?_
  rintro e w3 ⟨rfl, hb3⟩
  have HR3 := Lib.hid (HR2.out.step hb3)
  clear hb3 f0 f1 f2
  go_wp2_with fail
  clear hrv hdv hp2'
  go_loopw [9, 10, 11, 12] (fun x u s _ wr => ∃ i : Nat, i ≤ V ∧ s = .int .i64 i ∧ x = .int .i64 (pwS (timM P D low) (rootR P D low) i : Nat) ∧ Own wr w3.heap.size 3 u (sinLR P D low i) ∧ Below w3.heap.size w3 wr) (fun _ _ s _ _ => V - (intOf s).toNat)
  case atStart => exact ⟨0, by omega, rfl, rfl, own_nil _ _ _, Below.refl _ _⟩
  case round =>
    obtain ⟨i, hi, rfl, rfl, ho, hb⟩ := hrel
    have HO := Lib.hid ho; have HB := Lib.hid hb
    obtain ⟨ua, ul, uc, rfl⟩ := ho.shape
    clear ho hb
    have HRw := Lib.hid (HR3.out.step HB.out)
    have hpw := HPw.out i
    by_cases hlt : i < V
    · obtain ⟨f0, f1, f2⟩ := HRw.out.cells
      obtain ⟨T, hT⟩ : ∃ T, T = rtrS P D low D 0 (pwS (timM P D low) (rootR P D low) i) := ⟨_, rfl⟩
      have HTr : Hid (∀ W, Below w.heap.size w W → Calls Tryd.prog 47 #[.agg #[.int .i64 (P : Int), .int .i64 (D : Int), .slice sa low.length sc], .int .i64 (pwS (timM P D low) (rootR P D low) i : Nat)] W fun e w' => e = .returned (.int .i64 (T : Nat)) ∧ Below W.heap.size W w') := fun W hW => by
        rw [hT]; exact HTra.out _ W hpw hW
      have HMl : Hid (∀ W, Below w.heap.size w W → Calls Tryd.prog 33 #[.agg #[.int .i64 (P : Int), .int .i64 (D : Int), .slice sa low.length sc], .int .i64 (pwS (timM P D low) (rootR P D low) i : Nat), .int .i64 (rootR P D low : Nat)] W fun e w' => e = .returned (.int .i64 (pwS (timM P D low) (rootR P D low) (i + 1) : Nat)) ∧ Below W.heap.size W w') := fun W hW => HMu.out _ W hpw hW
      have HSB : Hid (sinBR P D low i = (T == 0)) := by show _ = _; rw [hT]; rfl
      clear hT hpw
      generalize pwS (timM P D low) (rootR P D low) i = x at *
      by_cases hT0 : T = 0
      · have e1 : (((T : Nat) : Int) == 0) = true := by simp [hT0]
        have HSn : Hid (sinLR P D low (i + 1) = sinLR P D low i ++ [((i : Nat) : Int)]) := sinLR_yes (by rw [HSB.out, hT0]; rfl)
        have HL9 : Hid ((sinLR P D low i).length < 1000000000) := by show _ < _; have := sinLR_len P D low i; omega
        clear hT0
        go_wp2_with fail
        refine (HTr.out wr HRw.out.bel).mono ?_
        rintro e w4 ⟨rfl, hb4⟩
        have HR4 := Lib.hid (HRw.out.step hb4)
        have HO4 := Lib.hid (HO.out.below hb4)
        have HB4 := Lib.hid (belowTrans HB.out hb4)
        clear hb4 f0 f1 f2
        obtain ⟨f0, f1, f2⟩ := HR4.out.cells
        go_wp2_with (first
          | (at_builtin; refine app_own rfl _ _ rfl rfl (HO4.out.alloc _) _ _ rfl (by rw [World.cell?_alloc_new]; rfl) HL9.out (by rw [World.size_alloc]; exact Nat.le_succ_of_le HB4.out.size) ?_; intro u5 w5 hown hgrow
             have HO5 : Hid (Own w5 w3.heap.size 3 u5 (sinLR P D low (i + 1))) := (by show Own _ _ _ _ _; rw [HSn.out]; exact hown)
             have HB5 := Lib.hid ((HB4.out.alloc HB4.out.size _).trans (below_grown hgrow (B := w3.heap.size) (fun q hq => (HO4.out.block q hq).1) (by rw [World.size_alloc]; exact Nat.le_succ_of_le HB4.out.size)))
             have HR5 := Lib.hid (HR3.out.step HB5.out)
             clear hown hgrow f0 f1 f2
             obtain ⟨f0, f1, f2⟩ := HR5.out.cells))
        refine (HMl.out w5 HR5.out.bel).mono ?_
        rintro e w6 ⟨rfl, hb6⟩
        have HO6 := Lib.hid (HO5.out.below hb6)
        have HB6 := Lib.hid (belowTrans HB5.out hb6)
        clear hb6 f0 f1 f2
        go_wp2_with fail
        go_roundw
        case rel => exact ⟨i + 1, by omega, by go_num, rfl, HO6.out, HB6.out⟩
        case measure => simp [intOf]; omega
      · have e1 : (((T : Nat) : Int) == 0) = false := by simp; omega
        have HSn : Hid (sinLR P D low (i + 1) = sinLR P D low i) := sinLR_no (by rw [HSB.out]; simpa using hT0)
        clear hT0
        go_wp2_with fail
        refine (HTr.out wr HRw.out.bel).mono ?_
        rintro e w4 ⟨rfl, hb4⟩
        have HR4 := Lib.hid (HRw.out.step hb4)
        have HO4 := Lib.hid (HO.out.below hb4)
        have HB4 := Lib.hid (belowTrans HB.out hb4)
        clear hb4 f0 f1 f2
        obtain ⟨f0, f1, f2⟩ := HR4.out.cells
        go_wp2_with fail
        refine (HMl.out w4 HR4.out.bel).mono ?_
        rintro e w6 ⟨rfl, hb6⟩
        have HO6 : Hid (Own w6 w3.heap.size 3 (.slice ua ul uc) (sinLR P D low (i + 1))) := by show Own _ _ _ _ _; rw [HSn.out]; exact HO4.out.below hb6
        have HB6 := Lib.hid (belowTrans HB4.out hb6)
        clear hb6 f0 f1 f2
        go_wp2_with fail
        go_roundw
        case rel => exact ⟨i + 1, by omega, by go_num, rfl, HO6.out, HB6.out⟩
        case measure => simp [intOf]; omega
    · obtain rfl : i = V := by omega
      have HIv : Hid (IntsAt wr (.slice ua ul uc) (sinLR P D low (ringV P D))) := by
        show IntsAt _ _ _
        rw [← HVr.out]
        exact HO.out.intsAt (by have := sinLR_len P D low i; omega)
      go_wp2_with fail
      go_ret3
      exact sg_yes HIv.out HRw.out.bel HVr.out
end Go.Proofs.YtdbfpdhcaiiiaaaDoor
