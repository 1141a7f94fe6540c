/-
  The walk of DifferMade: whatever the arguments, it returns true. No condition but that the table of primes reads as it is laid.
-/
import Derived.Test.YtdbfpdhcaiiiaaaDoorPDifferMade38
import Derived.Test.YtdbfpdhcaiiiaaaDoorPDifferMade41
import Derived.Test.YtdbfpdhcaiiiaaaDoorPDifferMade43
namespace Go.Proofs.YtdbfpdhcaiiiaaaDoor
open Go.RowKit

def gs (p : Nat) : Nat → Nat
  | 0 => 0
  | i + 1 => gs p i * p + 1
theorem gs_pow {p : Nat} (hp : 2 ≤ p) : ∀ i, gs p i * (p - 1) = p ^ i - 1
  | 0 => by simp [gs]
  | i + 1 => by
    have ih := gs_pow hp i
    have h1 : 1 ≤ p ^ i := pow_one_le (by omega) i
    obtain ⟨q, rfl⟩ : ∃ q, p = q + 1 := ⟨p - 1, by omega⟩
    rw [gs, Nat.pow_succ]
    rw [Nat.add_sub_cancel] at ih ⊢
    have e1 : (gs (q + 1) i * (q + 1) + 1) * q = (gs (q + 1) i * q) * (q + 1) + q := by
      rw [Nat.add_mul, Nat.one_mul, Nat.mul_right_comm]
    rw [e1, ih, Nat.sub_mul, Nat.one_mul]
    have h2 : q + 1 ≤ (q + 1) ^ i * (q + 1) := Nat.le_mul_of_pos_left _ (by omega)
    omega
theorem ringV_gs {p : Nat} (hp : 2 ≤ p) (i : Nat) : ringV p i = gs p i := by
  unfold ringV
  rw [← gs_pow hp i, Nat.mul_div_cancel _ (by omega)]
theorem gs_le {p : Nat} (hp : 1 ≤ p) {i : Nat} : ∀ {j : Nat}, i ≤ j → gs p i ≤ gs p j
  | 0, h => by obtain rfl : i = 0 := by omega
               exact Nat.le_refl _
  | j + 1, h => by
    by_cases e : i = j + 1
    · rw [e]; exact Nat.le_refl _
    · have := gs_le hp (show i ≤ j by omega)
      have h2 : gs p j ≤ gs p j * p := Nat.le_mul_of_pos_right _ (by omega)
      rw [gs]; omega
theorem field_nat {p d : Int} {low : List Int} (h : fieldFault p d low = 0) : ∃ P D : Nat, p = P ∧ d = D ∧ IsField P D low := by
  obtain ⟨h1, h2, h3⟩ := field_of h
  exact ⟨p.toNat, d.toNat, by omega, by omega, h1⟩
theorem palFault_zero {p : Int} (h : palFault p = 0) : ∃ n : Nat, 1 ≤ n ∧ n ≤ 60 ∧ p = n ∧ palOk n = true := by
  unfold palFault at h
  by_cases h1 : p < 1 ∨ 60 < p
  · rw [if_pos h1] at h; cases h
  · rw [if_neg h1] at h
    refine ⟨p.toNat, by omega, by omega, by omega, ?_⟩
    cases e : palOk p.toNat
    · rw [e] at h; cases h
    · rfl
theorem sing_zero {p d : Int} {low : List Int} (h : singFault p d low = 0) : ∃ P D : Nat, p = P ∧ d = D ∧ IsField P D low ∧ 3 ≤ D ∧ ringV P D ≤ 60 := by
  unfold singFault at h
  by_cases h0 : fieldFault p d low = 0
  · obtain ⟨P, D, rfl, rfl, hF⟩ := field_nat h0
    rw [if_neg (by simp [h0])] at h
    by_cases h1 : (D : Int) < 3
    · rw [if_pos h1] at h; cases h
    · rw [if_neg h1, Int.toNat_natCast, Int.toNat_natCast] at h
      by_cases h2 : 60 < ringV P D
      · rw [if_pos h2] at h; cases h
      · exact ⟨P, D, rfl, rfl, hF, by omega, by omega⟩
  · rw [if_pos h0] at h; exact absurd h h0
theorem sing_no (p d : Int) (v : Value) (low : List Int) (w : World) (h : IntsAt w v low) (hP : PrimesAt w) (hf : singFault p d low ≠ 0) :
    Calls Tryd.prog 17 #[.agg #[.int .i64 p, .int .i64 d, v]] w (SgPost 0 [] (singFault p d low) w) := by
  by_cases h0 : fieldFault p d low ≠ 0 ∨ d < 3
  · exact singer_bad p d v low w h hP h0
  · have h1 : fieldFault p d low = 0 := Classical.byContradiction fun hc => h0 (.inl hc)
    obtain ⟨P, D, rfl, rfl, hF⟩ := field_nat h1
    have h3 : 3 ≤ D := by
      refine Classical.byContradiction fun hc => h0 (.inr (by omega))
    refine singer_far P D v low w h hP hF h3 (Classical.byContradiction fun hc => hf ?_)
    unfold singFault
    rw [if_neg (by simp [h1]), if_neg (by omega), Int.toNat_natCast, Int.toNat_natCast, if_neg hc]
theorem pal_facts {p : Int} (h : palFault p = 0) : ∃ (n : Nat) (ps : List Int) (l1 : Nat), p = n ∧ n ≤ 60 ∧ 3 ≤ n ∧
    (∀ W, Calls Tryd.prog 15 #[.int .i64 (n : Nat)] W fun e w' => ∃ v, e = .returned (.tuple #[v, .int .i64 0]) ∧ IntsAt w' v ps ∧ Below W.heap.size W w') ∧
    (∀ (u : Value) W, IntsAt W u ps → Calls Tryd.prog 16 #[.int .i64 (n : Nat), u] W (DifPost (l1 : Nat) 0 W)) ∧
    (((l1 : Nat) : Int) != ((n : Int) - 3) / 4) = false ∧ (((ps.length : Nat) : Int) != ((n : Int) - 1) / 2) = false := by
  obtain ⟨n, hn1, hn2, hpe, hOk⟩ := palFault_zero h
  obtain ⟨q1, q2, q3⟩ := pal_lv hn2 hOk
  have hn4 := palOk_mod hOk
  have hA : palA p = palI n := by unfold palA; rw [if_pos h, hpe, Int.toNat_natCast]
  subst hpe
  refine ⟨n, palI n, (n - 3) / 4, rfl, hn2, by omega, fun W => ?_, fun u W hu => ?_, by simp; omega, by rw [q3]; simp; omega⟩
  · have := paley_any n W
    unfold PalPost at this
    rw [h, hA] at this; exact this
  · have := dlevel_any n u _ W hu
    rw [q1, q2] at this; exact this
theorem sing_facts {p d : Int} {low : List Int} (h : singFault p d low = 0) : ∃ (P D V : Nat) (bs : List Int), p = P ∧ d = D ∧ 2 ≤ P ∧ P ≤ 61 ∧ D ≤ 6 ∧ 3 ≤ D ∧
    (∀ (v : Value) W, IntsAt W v low → PrimesAt W → Calls Tryd.prog 17 #[.agg #[.int .i64 (P : Int), .int .i64 (D : Int), v]] W (SgPost (V : Nat) bs 0 W)) ∧
    (∀ (u : Value) W, IntsAt W u bs → Calls Tryd.prog 16 #[.int .i64 (V : Nat), u] W (DifPost (gs P (D - 2) : Nat) 0 W)) ∧
    bs.length = gs P (D - 1) ∧ ∀ i, i ≤ D → gs P i ≤ 60 := by
  obtain ⟨P, D, e1, e2, hF, h3, hV⟩ := sing_zero h
  obtain ⟨q1, q2, q3⟩ := sing_lv hF h3 hV
  have hp2 := hF.p2
  refine ⟨P, D, ringV P D, sinL P D low (ringV P D), e1, e2, hp2, hF.p61, hF.d6, h3, fun v W hI hP => singer_yes P D v low W hI hP hF h3 hV, fun u W hu => ?_, ?_, fun i hi => ?_⟩
  · have := dlevel_any (ringV P D : Nat) u _ W hu
    rw [q1, q2, ringV_gs hp2 (D - 2)] at this; exact this
  · rw [q3, ringV_gs hp2]
  · rw [ringV_gs hp2] at hV; exact Nat.le_trans (gs_le (by omega) hi) hV
set_option maxRecDepth 100000 in
set_option maxHeartbeats 4000000 in
theorem dmade_yy (p : Int) (fp fd : Int) (v : Value) (low : List Int) (w : World) (_hp : -9223372036854775808 ≤ p ∧ p ≤ 9223372036854775807) (_hfp : -9223372036854775808 ≤ fp ∧ fp ≤ 9223372036854775807) (_hfd : -9223372036854775808 ≤ fd ∧ fd ≤ 9223372036854775807) (hI : IntsAt w v low) (_hl : Fits low) (hP : PrimesAt w) (h2 : singFault fp fd low = 0) (h1 : palFault p = 0) :
    Calls Tryd.prog 5 #[.int .i64 p, .agg #[.int .i64 fp, .int .i64 fd, v]] w fun e w' => e = .returned (.bool true) ∧ Below w.heap.size w w' := by
  obtain ⟨sa, sc, rfl, _⟩ := id hI
  have HS := Lib.hid (FbRel.begin w fp fd (.slice sa low.length sc))
  have HI := Lib.hid hI; have HP := Lib.hid hP
  clear hI hP
  obtain ⟨P, D, V, bs, e1, e2, hp2, hp61, hd6, h3, hM, hL, hLn, hG⟩ := sing_facts h2
  subst e1; subst e2
  have HM : Hid (∀ W, Below w.heap.size w W → Calls Tryd.prog 17 #[.agg #[.int .i64 (P : Int), .int .i64 (D : Int), .slice sa low.length sc]] W (SgPost (V : Nat) bs 0 W)) := fun W hW => hM _ W (HI.out.below hW) (HP.out.below hW)
  have HL := Lib.hid hL; have HLn := Lib.hid hLn; have HG := Lib.hid hG
  clear hM hL hLn hG h2
  obtain ⟨n, ps, l1, hpe, hn2, hn3, hPa, hL1, e4, e3⟩ := pal_facts h1
  have HPa := Lib.hid hPa
  have HL1 := Lib.hid hL1
  subst hpe
  clear hPa hL1 h1
  go_enter Tryd.func5, Tryd.ntmps5
  go_wp2_with fail
  refine (differFact_any _).mono ?_
  rintro e w1 ⟨rfl, hb1⟩
  have HR1 := Lib.hid (HS.out.step hb1)
  clear hb1
  go_wp2_with fail
  refine (HPa.out _).mono ?_
  rintro e w2 ⟨va, rfl, hi1, hb2⟩
  obtain ⟨xa, xc, rfl, _⟩ := id hi1
  have HR2 := Lib.hid (HR1.out.step hb2)
  have HI1 := Lib.hid hi1
  clear hi1 hb2
  go_wp2_with fail
  refine (HL1.out _ _ HI1.out).mono ?_
  rintro e w3 ⟨rfl, hb3⟩
  have HR := Lib.hid (HR2.out.step hb3)
  clear hb3 HL1 HI1
  obtain ⟨f0, f1, f2⟩ := HR.out.cells
  go_wp2_with fail
  clear e3 e4
  refine (HM.out _ HR.out.bel).mono ?_
  rintro e w4 ⟨vs, rfl, hi4, hb4⟩
  have HR4 := Lib.hid (HR.out.step hb4)
  obtain ⟨ya, yc, rfl, _⟩ := id hi4
  have HI4 := Lib.hid hi4
  clear hi4 hb4 f0 f1 f2
  go_wp2_with fail
  refine (HL.out _ _ HI4.out).mono ?_
  rintro e w5 ⟨rfl, hb5⟩
  have HR5 := Lib.hid (HR4.out.step hb5)
  clear hb5 HI4 HL HM
  obtain ⟨f0, f1, f2⟩ := HR5.out.cells
  go_wp2_with fail
  go_loop [13, 14, 15] (fun k m i => ∃ j g h : Nat, j ≤ D - 1 ∧ i = .int .i64 j ∧ k = .int .i64 g ∧ m = .int .i64 h ∧ g = gs P j ∧ (1 ≤ j → h = gs P (j - 1))) (fun _ _ i => D - (intOf i).toNat)
  case atStart => exact ⟨0, 0, 0, by omega, rfl, rfl, rfl, rfl, fun h => by omega⟩
  case round =>
    obtain ⟨j, g, h, hj, rfl, rfl, rfl, hg, hh⟩ := hrel
    have hg60 : g ≤ 60 := by rw [hg]; exact HG.out j (by omega)
    have HGj := Lib.hid hg
    have HGn : Hid (gs P (j + 1) = g * P + 1) := by show _ = _; rw [hg]; rfl
    have HHj := Lib.hid hh
    have hm : g * P ≤ 60 * 61 := Nat.mul_le_mul hg60 hp61
    have hv := mul_val (q := g) (p := P) (by omega)
    obtain ⟨m2, hm2⟩ : ∃ m, m = g * P := ⟨_, rfl⟩
    rw [← hm2] at hv hm HGn
    clear hm2 hg hh
    by_cases hlt : j < D - 1
    · go_wp2_with fail
      go_round
      case rel => exact ⟨j + 1, m2 + 1, g, by omega, by go_num, by go_num, rfl, HGn.out.symm, fun _ => HGj.out⟩
      case measure => simp [intOf]; omega
    · obtain rfl : j = D - 1 := by omega
      have ea : (((bs.length : Nat) : Int) == (g : Int)) = true := by
        have h1 := HGj.out; have h2 := HLn.out
        rw [h2, h1]; simp
      have eb : (((gs P (D - 2) : Nat) : Int) == (h : Int)) = true := by
        have h1 := HHj.out (by omega)
        rw [h1, show D - 1 - 1 = D - 2 by omega]; simp
      generalize gs P (D - 2) = gl2 at *
      go_wp2_with fail
      go_ret
      exact ⟨rfl, HR5.out.bel⟩
set_option maxRecDepth 100000 in
set_option maxHeartbeats 4000000 in
theorem dmade_yn (p : Int) (fp fd : Int) (v : Value) (low : List Int) (w : World) (_hp : -9223372036854775808 ≤ p ∧ p ≤ 9223372036854775807) (_hfp : -9223372036854775808 ≤ fp ∧ fp ≤ 9223372036854775807) (_hfd : -9223372036854775808 ≤ fd ∧ fd ≤ 9223372036854775807) (hI : IntsAt w v low) (_hl : Fits low) (hP : PrimesAt w) (h2 : singFault fp fd low = 0) (h1 : palFault p ≠ 0) :
    Calls Tryd.prog 5 #[.int .i64 p, .agg #[.int .i64 fp, .int .i64 fd, v]] w fun e w' => e = .returned (.bool true) ∧ Below w.heap.size w w' := by
  obtain ⟨sa, sc, rfl, _⟩ := id hI
  have HS := Lib.hid (FbRel.begin w fp fd (.slice sa low.length sc))
  have HI := Lib.hid hI; have HP := Lib.hid hP
  clear hI hP
  obtain ⟨P, D, V, bs, e1, e2, hp2, hp61, hd6, h3, hM, hL, hLn, hG⟩ := sing_facts h2
  subst e1; subst e2
  have HM : Hid (∀ W, Below w.heap.size w W → Calls Tryd.prog 17 #[.agg #[.int .i64 (P : Int), .int .i64 (D : Int), .slice sa low.length sc]] W (SgPost (V : Nat) bs 0 W)) := fun W hW => hM _ W (HI.out.below hW) (HP.out.below hW)
  have HL := Lib.hid hL; have HLn := Lib.hid hLn; have HG := Lib.hid hG
  clear hM hL hLn hG h2
  have e3 : (palFault p != 0) = true := by simpa using h1
  have e4 : (palFault p == 0) = false := by simpa using h1
  clear h1
  have HPal : Hid (∀ W, Calls Tryd.prog 15 #[.int .i64 p] W fun e w' => ∃ v, e = .returned (.tuple #[v, .int .i64 (palFault p)]) ∧ IntsAt w' v (palA p) ∧ Below W.heap.size W w') := fun W => paley_any p W
  generalize palFault p = fp1 at *
  go_enter Tryd.func5, Tryd.ntmps5
  go_wp2_with fail
  refine (differFact_any _).mono ?_
  rintro e w1 ⟨rfl, hb1⟩
  have HR1 := Lib.hid (HS.out.step hb1)
  clear hb1
  go_wp2_with fail
  refine (HPal.out _).mono ?_
  rintro e w2 ⟨va, rfl, hi1, hb2⟩
  obtain ⟨xa, xc, rfl, _⟩ := id hi1
  have HR := Lib.hid (HR1.out.step hb2)
  clear hi1 hb2
  obtain ⟨f0, f1, f2⟩ := HR.out.cells
  go_wp2_with fail
  clear e3 e4
  refine (HM.out _ HR.out.bel).mono ?_
  rintro e w4 ⟨vs, rfl, hi4, hb4⟩
  have HR4 := Lib.hid (HR.out.step hb4)
  obtain ⟨ya, yc, rfl, _⟩ := id hi4
  have HI4 := Lib.hid hi4
  clear hi4 hb4 f0 f1 f2
  go_wp2_with fail
  refine (HL.out _ _ HI4.out).mono ?_
  rintro e w5 ⟨rfl, hb5⟩
  have HR5 := Lib.hid (HR4.out.step hb5)
  clear hb5 HI4 HL HM
  obtain ⟨f0, f1, f2⟩ := HR5.out.cells
  go_wp2_with fail
  go_loop [13, 14, 15] (fun k m i => ∃ j g h : Nat, j ≤ D - 1 ∧ i = .int .i64 j ∧ k = .int .i64 g ∧ m = .int .i64 h ∧ g = gs P j ∧ (1 ≤ j → h = gs P (j - 1))) (fun _ _ i => D - (intOf i).toNat)
  case atStart => exact ⟨0, 0, 0, by omega, rfl, rfl, rfl, rfl, fun h => by omega⟩
  case round =>
    obtain ⟨j, g, h, hj, rfl, rfl, rfl, hg, hh⟩ := hrel
    have hg60 : g ≤ 60 := by rw [hg]; exact HG.out j (by omega)
    have HGj := Lib.hid hg
    have HGn : Hid (gs P (j + 1) = g * P + 1) := by show _ = _; rw [hg]; rfl
    have HHj := Lib.hid hh
    have hm : g * P ≤ 60 * 61 := Nat.mul_le_mul hg60 hp61
    have hv := mul_val (q := g) (p := P) (by omega)
    obtain ⟨m2, hm2⟩ : ∃ m, m = g * P := ⟨_, rfl⟩
    rw [← hm2] at hv hm HGn
    clear hm2 hg hh
    by_cases hlt : j < D - 1
    · go_wp2_with fail
      go_round
      case rel => exact ⟨j + 1, m2 + 1, g, by omega, by go_num, by go_num, rfl, HGn.out.symm, fun _ => HGj.out⟩
      case measure => simp [intOf]; omega
    · obtain rfl : j = D - 1 := by omega
      have ea : (((bs.length : Nat) : Int) == (g : Int)) = true := by
        have h1 := HGj.out; have h2 := HLn.out
        rw [h2, h1]; simp
      have eb : (((gs P (D - 2) : Nat) : Int) == (h : Int)) = true := by
        have h1 := HHj.out (by omega)
        rw [h1, show D - 1 - 1 = D - 2 by omega]; simp
      generalize gs P (D - 2) = gl2 at *
      go_wp2_with fail
      go_ret
      exact ⟨rfl, HR5.out.bel⟩
set_option maxRecDepth 100000 in
set_option maxHeartbeats 4000000 in
theorem dmade_ny (p : Int) (fp fd : Int) (v : Value) (low : List Int) (w : World) (_hp : -9223372036854775808 ≤ p ∧ p ≤ 9223372036854775807) (_hfp : -9223372036854775808 ≤ fp ∧ fp ≤ 9223372036854775807) (_hfd : -9223372036854775808 ≤ fd ∧ fd ≤ 9223372036854775807) (hI : IntsAt w v low) (_hl : Fits low) (hP : PrimesAt w) (h2 : singFault fp fd low ≠ 0) (h1 : palFault p = 0) :
    Calls Tryd.prog 5 #[.int .i64 p, .agg #[.int .i64 fp, .int .i64 fd, v]] w fun e w' => e = .returned (.bool true) ∧ Below w.heap.size w w' := by
  obtain ⟨sa, sc, rfl, _⟩ := id hI
  have HS := Lib.hid (FbRel.begin w fp fd (.slice sa low.length sc))
  have HI := Lib.hid hI; have HP := Lib.hid hP
  clear hI hP
  have HM : Hid (∀ W, Below w.heap.size w W → Calls Tryd.prog 17 #[.agg #[.int .i64 fp, .int .i64 fd, .slice sa low.length sc]] W (SgPost 0 [] (singFault fp fd low) W)) := fun W hW => sing_no fp fd _ low W (HI.out.below hW) (HP.out.below hW) h2
  have e2 : (singFault fp fd low != 0) = true := by simpa using h2
  clear h2
  generalize singFault fp fd low = f2 at *
  obtain ⟨n, ps, l1, hpe, hn2, hn3, hPa, hL1, e4, e3⟩ := pal_facts h1
  have HPa := Lib.hid hPa
  have HL1 := Lib.hid hL1
  subst hpe
  clear hPa hL1 h1
  go_enter Tryd.func5, Tryd.ntmps5
  go_wp2_with fail
  refine (differFact_any _).mono ?_
  rintro e w1 ⟨rfl, hb1⟩
  have HR1 := Lib.hid (HS.out.step hb1)
  clear hb1
  go_wp2_with fail
  refine (HPa.out _).mono ?_
  rintro e w2 ⟨va, rfl, hi1, hb2⟩
  obtain ⟨xa, xc, rfl, _⟩ := id hi1
  have HR2 := Lib.hid (HR1.out.step hb2)
  have HI1 := Lib.hid hi1
  clear hi1 hb2
  go_wp2_with fail
  refine (HL1.out _ _ HI1.out).mono ?_
  rintro e w3 ⟨rfl, hb3⟩
  have HR := Lib.hid (HR2.out.step hb3)
  clear hb3 HL1 HI1
  obtain ⟨f0, f1, f2⟩ := HR.out.cells
  go_wp2_with fail
  clear e3 e4
  refine (HM.out _ HR.out.bel).mono ?_
  rintro e w4 ⟨vs, rfl, hi4, hb4⟩
  have HR4 := Lib.hid (HR.out.step hb4)
  clear hi4 hb4 f0 f1 f2
  go_wp2_with fail
  go_ret
  exact ⟨rfl, HR4.out.bel⟩
set_option maxRecDepth 100000 in
set_option maxHeartbeats 4000000 in
theorem dmade_nn (p : Int) (fp fd : Int) (v : Value) (low : List Int) (w : World) (_hp : -9223372036854775808 ≤ p ∧ p ≤ 9223372036854775807) (_hfp : -9223372036854775808 ≤ fp ∧ fp ≤ 9223372036854775807) (_hfd : -9223372036854775808 ≤ fd ∧ fd ≤ 9223372036854775807) (hI : IntsAt w v low) (_hl : Fits low) (hP : PrimesAt w) (h2 : singFault fp fd low ≠ 0) (h1 : palFault p ≠ 0) :
    Calls Tryd.prog 5 #[.int .i64 p, .agg #[.int .i64 fp, .int .i64 fd, v]] w fun e w' => e = .returned (.bool true) ∧ Below w.heap.size w w' := by
  obtain ⟨sa, sc, rfl, _⟩ := id hI
  have HS := Lib.hid (FbRel.begin w fp fd (.slice sa low.length sc))
  have HI := Lib.hid hI; have HP := Lib.hid hP
  clear hI hP
  have HM : Hid (∀ W, Below w.heap.size w W → Calls Tryd.prog 17 #[.agg #[.int .i64 fp, .int .i64 fd, .slice sa low.length sc]] W (SgPost 0 [] (singFault fp fd low) W)) := fun W hW => sing_no fp fd _ low W (HI.out.below hW) (HP.out.below hW) h2
  have e2 : (singFault fp fd low != 0) = true := by simpa using h2
  clear h2
  generalize singFault fp fd low = f2 at *
  have e3 : (palFault p != 0) = true := by simpa using h1
  have e4 : (palFault p == 0) = false := by simpa using h1
  clear h1
  have HPal : Hid (∀ W, Calls Tryd.prog 15 #[.int .i64 p] W fun e w' => ∃ v, e = .returned (.tuple #[v, .int .i64 (palFault p)]) ∧ IntsAt w' v (palA p) ∧ Below W.heap.size W w') := fun W => paley_any p W
  generalize palFault p = fp1 at *
  go_enter Tryd.func5, Tryd.ntmps5
  go_wp2_with fail
  refine (differFact_any _).mono ?_
  rintro e w1 ⟨rfl, hb1⟩
  have HR1 := Lib.hid (HS.out.step hb1)
  clear hb1
  go_wp2_with fail
  refine (HPal.out _).mono ?_
  rintro e w2 ⟨va, rfl, hi1, hb2⟩
  obtain ⟨xa, xc, rfl, _⟩ := id hi1
  have HR := Lib.hid (HR1.out.step hb2)
  clear hi1 hb2
  obtain ⟨f0, f1, f2⟩ := HR.out.cells
  go_wp2_with fail
  clear e3 e4
  refine (HM.out _ HR.out.bel).mono ?_
  rintro e w4 ⟨vs, rfl, hi4, hb4⟩
  have HR4 := Lib.hid (HR.out.step hb4)
  clear hi4 hb4 f0 f1 f2
  go_wp2_with fail
  go_ret
  exact ⟨rfl, HR4.out.bel⟩
theorem differMade_walk (p : Int) (fp fd : Int) (v : Value) (low : List Int) (w : World) (_hp : -9223372036854775808 ≤ p ∧ p ≤ 9223372036854775807) (_hfp : -9223372036854775808 ≤ fp ∧ fp ≤ 9223372036854775807) (_hfd : -9223372036854775808 ≤ fd ∧ fd ≤ 9223372036854775807) (hI : IntsAt w v low) (_hl : Fits low) (hP : PrimesAt w) :
    Calls Tryd.prog 5 #[.int .i64 p, .agg #[.int .i64 fp, .int .i64 fd, v]] w fun e w' => e = .returned (.bool true) ∧ Below w.heap.size w w' := by
  by_cases h2 : singFault fp fd low = 0
  · by_cases h1 : palFault p = 0
    · exact dmade_yy p fp fd v low w _hp _hfp _hfd hI _hl hP h2 h1
    · exact dmade_yn p fp fd v low w _hp _hfp _hfd hI _hl hP h2 h1
  · by_cases h1 : palFault p = 0
    · exact dmade_ny p fp fd v low w _hp _hfp _hfd hI _hl hP h2 h1
    · exact dmade_nn p fp fd v low w _hp _hfp _hfd hI _hl hP h2 h1
end Go.Proofs.YtdbfpdhcaiiiaaaDoor
