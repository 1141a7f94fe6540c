/-
  Contracts: the reference's MadeOf, CyclicOf. No condition.
-/
import Derived.Test.YtdbfpdhcaiiiaaaDoorFTimesEval
import Derived.Test.YtdbfpdhcaiiiaaaDoorFMadeC
import Derived.Test.YtdbfpdhcaiiiaaaDoorCyclic2
namespace Go.Proofs.YtdbfpdhcaiiiaaaDoor
open Go.RowKit

/-- The cell of a square that the reference makes. -/
def madR (p d : Nat) (low : List Int) (a i j : Nat) : Nat := addV p d (timesV p d (lF low) a i) j
theorem mad_same {P D : Nat} {low : List Int} {a : Nat} (hF : IsField P D low) (h8 : P ^ D ≤ 8) (ha : a < P ^ D) : madTo (P ^ D) (madR P D low a) (P ^ D * P ^ D) = madTo (P ^ D) (madC P D low a) (P ^ D * P ^ D) := by
  unfold madTo
  refine List.map_congr_left fun k hk => ?_
  have hk := List.mem_range.1 hk
  have hi : k / P ^ D < P ^ D := Nat.div_lt_of_lt_mul hk
  unfold madR madC
  rw [mul_times8 hF h8 ha hi]

/-- What MadeOf holds ahead of its square. -/
structure MzRel (w wr : World) (p d : Int) (v : Value) : Prop where
  bel : Below w.heap.size w wr
  lt : w.heap.size + 1 < wr.heap.size
  fb : Arr wr w.heap.size 3 (three (.int .i64 p) (.int .i64 d) v)
  rb : Arr wr (w.heap.size + 1) 2 (fun j => if j = 0 then .int .i64 0 else .slice none 0 0)
theorem mz_start (w : World) (p d : Int) (v : Value) : MzRel w ((w.alloc (.cells #[.int .i64 p, .int .i64 d, v] 24)).alloc (.cells #[.int .i64 0, .slice none 0 0] 26)) p d v := by
  have h2 := arr_sq (w.alloc (.cells #[.int .i64 p, .int .i64 d, v] 24)) (.int .i64 0) (.slice none 0 0) 26
  simp only [World.size_alloc] at h2
  exact ⟨belowTrans (below_box _ _) (below_box _ _), by simp, Arr.alloc (three_new w _ _ _ _) _, h2⟩
theorem MzRel.step {w wr W : World} {p d : Int} {v : Value} (h : MzRel w wr p d v) (hb : Below wr.heap.size wr W) : MzRel w W p d v :=
  ⟨belowTrans h.bel hb, Nat.lt_of_lt_of_le h.lt hb.size, Arr.below h.fb hb, Arr.below h.rb hb⟩
theorem MzRel.cells {w wr : World} {p d : Int} {v : Value} (h : MzRel w wr p d v) :
    (wr.cell? ⟨w.heap.size, 0, none⟩ = some (.int .i64 p) ∧ wr.cell? ⟨w.heap.size, 1, none⟩ = some (.int .i64 d) ∧ wr.cell? ⟨w.heap.size, 2, none⟩ = some v) ∧
    (wr.cell? ⟨w.heap.size + 1, 0, none⟩ = some (.int .i64 0) ∧ wr.cell? ⟨w.heap.size + 1, 1, none⟩ = some (.slice none 0 0) ∧ wr.frozen? ⟨w.heap.size + 1, 0, none⟩ = false ∧ wr.frozen? ⟨w.heap.size + 1, 1, none⟩ = false) :=
  ⟨⟨h.fb.cell (show 0 < 3 by omega), h.fb.cell (show 1 < 3 by omega), h.fb.cell (show 2 < 3 by omega)⟩, h.rb.cell (show 0 < 2 by omega), h.rb.cell (show 1 < 2 by omega), h.rb.free (show 0 < 2 by omega), h.rb.free (show 1 < 2 by omega)⟩
theorem MzRel.fin {w wr : World} {p d : Int} {v : Value} (h : MzRel w wr p d v) (x y : Value) : Below w.heap.size w ((wr.setCell ⟨w.heap.size + 1, 0, none⟩ x).setCell ⟨w.heap.size + 1, 1, none⟩ y) :=
  (h.bel.setCell (Nat.le_succ _) _).setCell (Nat.le_succ _) _
/-- .. and with it. -/
structure MoRel (w wr : World) (p d : Int) (v : Value) (bs n : Nat) (u : Value) (xs : List Int) : Prop where
  mz : MzRel w wr p d v
  lo : w.heap.size + 1 < bs
  hi : bs < wr.heap.size
  out : Arr wr bs 2 (fun j => if j = 0 then .int .i64 (n : Int) else u)
  own : Own wr (bs + 1) 3 u xs
theorem mo_start {w wr : World} {p d : Int} {v : Value} (h : MzRel w wr p d v) (n : Nat) : MoRel w (wr.alloc (.cells #[.int .i64 (n : Int), .slice none 0 0] 26)) p d v wr.heap.size n (.slice none 0 0) [] :=
  ⟨h.step (below_box _ _), h.lt, by simp, arr_sq _ _ _ _, own_nil _ _ _⟩
theorem MoRel.next {w wr W : World} {p d : Int} {v : Value} {bs n : Nat} {u : Value} {xs : List Int} (h : MoRel w wr p d v bs n u xs) (hb : Below wr.heap.size wr W) : MoRel w W p d v bs n u xs :=
  ⟨h.mz.step hb, h.lo, Nat.lt_of_lt_of_le h.hi hb.size, h.out.below hb, h.own.below hb⟩
theorem MoRel.push {w w1 w2 : World} {p d : Int} {v : Value} {bs n : Nat} {u u' : Value} {xs : List Int} {y : Int} (h : MoRel w w1 p d v bs n u xs) (ho : Own w2 (bs + 1) 3 u' (xs ++ [y])) (hg : w1.grownBy w2 u.ownBlock) :
    MoRel w (w2.setCell ⟨bs, 1, none⟩ u') p d v bs n u' (xs ++ [y]) := by
  have hb := h.own.block
  have hsz := hg.size
  have hlo := h.lo; have hhi := h.hi
  have hB : Below w.heap.size w w2 := h.mz.bel.grown hg (by have := h.mz.bel.size; omega) (fun k hk => by have := (hb k hk).1; omega)
  have kp : ∀ {b m : Nat} {f : Nat → Value}, b < bs + 1 → Arr w1 b m f → Arr w2 b m f := fun hlt hA =>
    Arr.kept hA (fun o => (far_cell hg (base := bs + 1) (fun k hk => (hb k hk).1) hlt (by omega)).1) (fun o => (far_cell hg (base := bs + 1) (fun k hk => (hb k hk).1) hlt (by omega)).2) hsz
  refine ⟨⟨hB.setCell (by show _ ≤ bs; omega) _, by rw [World.size_setCell]; have := h.mz.lt; omega, (kp (by omega) h.mz.fb).setOther (by show bs ≠ _; omega) _, (kp (by omega) h.mz.rb).setOther (by show bs ≠ _; omega) _⟩, hlo, by rw [World.size_setCell]; omega, ?_, ho.setFar (by show bs < _; omega) _⟩
  refine ((kp (by omega) h.out).set (show 1 < 2 by omega) u').congr fun j hj => ?_
  rcases j with _ | _ | j
  · rfl
  · rfl
  · omega
theorem MoRel.spot {w w1 w2 : World} {p d : Int} {v : Value} {bs n : Nat} {u : Value} {xs : List Int} (h : MoRel w w1 p d v bs n u xs) (hg : w1.grownBy w2 u.ownBlock) :
    w2.cell? ⟨bs, 1, none⟩ = some u ∧ w2.frozen? ⟨bs, 1, none⟩ = false := by
  have hb := h.own.block
  have hhi := h.hi
  have f := far_cell hg (base := bs + 1) (b := bs) (o := 1) (fun k hk => (hb k hk).1) (by omega) (by omega)
  exact ⟨f.1.trans (h.out.cell (show 1 < 2 by omega)), f.2.trans (h.out.free (show 1 < 2 by omega))⟩

set_option maxRecDepth 100000 in
set_option maxHeartbeats 3000000 in
theorem madeOf_bad (p d a : Int) (v : Value) (low : List Int) (w : World) (h : IntsAt w v low) (hf : madeFault p d low a ≠ 0) :
    Calls Tryd.prog 11 #[.agg #[.int .i64 p, .int .i64 d, v], .int .i64 a] w (NoSq (madeFault p d low a) w) := by
  obtain ⟨sa, sc, rfl, _⟩ := id h
  have HS := Lib.hid (mz_start w p d (.slice sa low.length sc))
  have HFt := Lib.hid (rfault_any p d _ low _ (h.below HS.out.bel))
  have HSz : Hid (∀ W, Calls Tryd.prog 32 #[.agg #[.int .i64 p, .int .i64 d, .slice sa low.length sc]] W fun e w' => e = .returned (.int .i64 (ordQ p d : Nat)) ∧ Below W.heap.size W w') := fun W => size_any p d _ W ⟨_, _, _, rfl⟩
  have HFault := Lib.hid hf
  clear h
  by_cases h0 : fieldFault p d low = 0
  · have HMF : Hid (madeFault p d low a = if a < 1 ∨ ((ordQ p d : Nat) : Int) ≤ a then 1 else if 8 < ordQ p d then 3 else 0) := by show _ = _; unfold madeFault; rw [if_neg (by simp [h0])]
    rw [h0] at HFt
    clear h0 hf
    by_cases h1 : a < 1 ∨ ((ordQ p d : Nat) : Int) ≤ a
    · have HF1 : Hid (madeFault p d low a = 1) := by show _ = _; rw [HMF.out, if_pos h1]
      by_cases h2 : a < 1
      · have e1 : decide (a < 1) = true := by simpa using h2
        clear h1 h2
        go_enter Tryd.func11, Tryd.ntmps11
        go_wp2_with fail
        refine HFt.out.mono ?_
        rintro e w1 ⟨rfl, hb1⟩
        have HR := Lib.hid (HS.out.step hb1)
        obtain ⟨⟨k0, k1, k2⟩, _⟩ := HR.out.cells
        clear hb1
        go_wp2_with fail
        refine (HSz.out _).mono ?_
        rintro e w2 ⟨rfl, hb2⟩
        have HR2 := Lib.hid (HR.out.step hb2)
        obtain ⟨_, ⟨l0, l1, l2, l3⟩⟩ := HR2.out.cells
        clear hb2 k0 k1 k2
        go_wp2_with fail
        exact bodyPost_ret (results_arrT (p := 4) (u := 5) rfl ((HR2.out.rb.set (show 0 < 2 by omega) (.int .i64 0)).set (show 1 < 2 by omega) (.slice none 0 0)) Tryd.underlying26 rfl (by kernel_rfl) rfl) rfl ⟨by rw [HF1.out]; rfl, HR2.out.fin _ _⟩
      · have e1 : decide (a < 1) = false := by simpa using h2
        have e2 : decide (((ordQ p d : Nat) : Int) ≤ a) = true := by simp; omega
        clear h1 h2
        go_enter Tryd.func11, Tryd.ntmps11
        go_wp2_with fail
        refine HFt.out.mono ?_
        rintro e w1 ⟨rfl, hb1⟩
        have HR := Lib.hid (HS.out.step hb1)
        obtain ⟨⟨k0, k1, k2⟩, _⟩ := HR.out.cells
        clear hb1
        go_wp2_with fail
        refine (HSz.out _).mono ?_
        rintro e w2 ⟨rfl, hb2⟩
        have HR2 := Lib.hid (HR.out.step hb2)
        obtain ⟨_, ⟨l0, l1, l2, l3⟩⟩ := HR2.out.cells
        clear hb2 k0 k1 k2
        go_wp2_with fail
        exact bodyPost_ret (results_arrT (p := 4) (u := 5) rfl ((HR2.out.rb.set (show 0 < 2 by omega) (.int .i64 0)).set (show 1 < 2 by omega) (.slice none 0 0)) Tryd.underlying26 rfl (by kernel_rfl) rfl) rfl ⟨by rw [HF1.out]; rfl, HR2.out.fin _ _⟩
    · have h8 : 8 < ordQ p d := by
        have := HFault.out
        rw [HMF.out, if_neg h1] at this
        by_cases h8 : 8 < ordQ p d
        · exact h8
        · rw [if_neg h8] at this; exact absurd rfl this
      have HF1 : Hid (madeFault p d low a = 3) := by show _ = _; rw [HMF.out, if_neg h1, if_pos h8]
      have e1 : decide (a < 1) = false := by simp; omega
      have e2 : decide (((ordQ p d : Nat) : Int) ≤ a) = false := by simp; omega
      have e3 : decide (8 < ((ordQ p d : Nat) : Int)) = true := by simp; omega
      clear h1
      go_enter Tryd.func11, Tryd.ntmps11
      go_wp2_with fail
      refine HFt.out.mono ?_
      rintro e w1 ⟨rfl, hb1⟩
      have HR := Lib.hid (HS.out.step hb1)
      obtain ⟨⟨k0, k1, k2⟩, _⟩ := HR.out.cells
      clear hb1
      go_wp2_with fail
      refine (HSz.out _).mono ?_
      rintro e w2 ⟨rfl, hb2⟩
      have HR2 := Lib.hid (HR.out.step hb2)
      obtain ⟨_, ⟨l0, l1, l2, l3⟩⟩ := HR2.out.cells
      clear hb2 k0 k1 k2
      go_wp2_with fail
      exact bodyPost_ret (results_arrT (p := 4) (u := 5) rfl ((HR2.out.rb.set (show 0 < 2 by omega) (.int .i64 0)).set (show 1 < 2 by omega) (.slice none 0 0)) Tryd.underlying26 rfl (by kernel_rfl) rfl) rfl ⟨by rw [HF1.out]; rfl, HR2.out.fin _ _⟩
  · have HF1 : Hid (madeFault p d low a = fieldFault p d low) := by show _ = _; unfold madeFault; rw [if_pos h0]
    have e1 : (fieldFault p d low != 0) = true := by simp [h0]
    clear h0 hf
    go_enter Tryd.func11, Tryd.ntmps11
    go_wp2_with fail
    refine HFt.out.mono ?_
    rintro e w1 ⟨rfl, hb1⟩
    have HR := Lib.hid (HS.out.step hb1)
    obtain ⟨_, ⟨l0, l1, l2, l3⟩⟩ := HR.out.cells
    clear hb1
    go_wp2_with fail
    exact bodyPost_ret (results_arrT (p := 4) (u := 5) rfl ((HR.out.rb.set (show 0 < 2 by omega) (.int .i64 0)).set (show 1 < 2 by omega) (.slice none 0 0)) Tryd.underlying26 rfl (by kernel_rfl) rfl) rfl ⟨by rw [HF1.out]; rfl, HR.out.fin _ _⟩

set_option maxRecDepth 100000 in
set_option maxHeartbeats 4000000 in
theorem madeOf_yes (P D a : Nat) (v : Value) (low : List Int) (w : World) (h : IntsAt w v low) (hF : IsField P D low) (h1 : 1 ≤ a) (ha : a < P ^ D) (h8 : P ^ D ≤ 8) :
    Calls Tryd.prog 11 #[.agg #[.int .i64 P, .int .i64 D, v], .int .i64 a] w (SqPost (P ^ D) (madTo (P ^ D) (madR P D low a) (P ^ D * P ^ D)) w) := by
  obtain ⟨sa, sc, rfl, _⟩ := id h
  have HS := Lib.hid (mz_start w P D (.slice sa low.length sc))
  have hft := rfault_any P D _ low _ (h.below HS.out.bel)
  rw [fault_of hF] at hft
  have HFt := Lib.hid hft
  have HSz : Hid (∀ W, Calls Tryd.prog 32 #[.agg #[.int .i64 P, .int .i64 D, .slice sa low.length sc]] W fun e w' => e = .returned (.int .i64 (P ^ D : Nat)) ∧ Below W.heap.size W w') := fun W => by
    have := size_any P D (.slice sa low.length sc) W ⟨_, _, _, rfl⟩
    rw [hF.q] at this; exact this
  have HTi : Hid (∀ (i : Nat) W, i < P ^ D → Below w.heap.size w W → Calls Tryd.prog 33 #[.agg #[.int .i64 P, .int .i64 D, .slice sa low.length sc], .int .i64 (a : Nat), .int .i64 i] W fun e w' => e = .returned (.int .i64 (timesV P D (lF low) a i : Nat)) ∧ Below W.heap.size W w') :=
    fun i W hi hW => rtimes_any P D a i _ low W (h.below hW) hF (by omega) (by omega)
  have HSu : Hid (∀ (m j : Nat) W, m ≤ 64 → j ≤ 64 → Calls Tryd.prog 34 #[.agg #[.int .i64 P, .int .i64 D, .slice sa low.length sc], .int .i64 m, .int .i64 j] W fun e w' => e = .returned (.int .i64 (addV P D m j : Nat)) ∧ Below W.heap.size W w') :=
    fun m j W hm hj => rsum_any P D m j _ W ⟨_, _, _, rfl⟩ hF.p2 (by have := hF.p61; omega) hF.d1 hF.d6 hF.q64 hm hj
  have HTl : Hid (∀ i, timesV P D (lF low) a i < P ^ D) := fun i => timesV_lt (by have := hF.p2; omega)
  have hq1 : 1 ≤ P ^ D := by omega
  have e1 : decide ((a : Int) < 1) = false := by simp; omega
  clear h hF hft
  obtain ⟨q, hq⟩ : ∃ q, q = P ^ D := ⟨_, rfl⟩
  rw [← hq] at HSz HTi HTl ha h8 hq1
  rw [← hq]
  clear hq
  have e2 : decide ((q : Int) ≤ (a : Int)) = false := by simp; omega
  have e2n : decide (q ≤ a) = false := by simp; omega
  go_enter Tryd.func11, Tryd.ntmps11
  go_wp2_with fail
  refine HFt.out.mono ?_
  rintro e w1 ⟨rfl, hb1⟩
  have HR := Lib.hid (HS.out.step hb1)
  obtain ⟨⟨k0, k1, k2⟩, _⟩ := HR.out.cells
  clear hb1
  go_wp2_with fail
  refine (HSz.out _).mono ?_
  rintro e w2 ⟨rfl, hb2⟩
  have HR2 := Lib.hid (HR.out.step hb2)
  have HM := Lib.hid (mo_start HR2.out q)
  clear hb2 k0 k1 k2 HFt HS HR HR2
  go_wp2_with fail
  generalize w2.heap.size = bs at *
  go_loopw [9, 10, 11, 12] (fun s _ _ _ wr => ∃ (i : Nat) (u : Value), i ≤ q ∧ s = .int .i64 i ∧ MoRel w wr P D (.slice sa low.length sc) bs q u (madTo q (madR P D low a) (i * q))) (fun s _ _ _ _ => q - (intOf s).toNat)
  case atStart => exact ⟨0, _, by omega, rfl, by rw [Nat.zero_mul]; exact HM.out⟩
  case round =>
    clear HM
    obtain ⟨i, u, hi, rfl, hR⟩ := hrel
    have HR := Lib.hid hR; clear hR
    by_cases hlt : i < q
    · obtain ⟨⟨k0, k1, k2⟩, _⟩ := HR.out.mz.cells
      go_wp2_with fail
      refine (HTi.out i wr hlt HR.out.mz.bel).mono ?_
      rintro e w3 ⟨rfl, hb3⟩
      have HR3 := Lib.hid (HR.out.next hb3)
      have hml := HTl.out i
      have HMi : Hid (∀ j, madR P D low a i j = addV P D (timesV P D (lF low) a i) j) := fun j => rfl
      clear hb3 k0 k1 k2 HR
      generalize timesV P D (lF low) a i = m at *
      go_wp2_with fail
      go_loopw [11, 12] (fun s _ wr => ∃ (k : Nat) (u : Value), k ≤ q ∧ s = .int .i64 k ∧ MoRel w wr P D (.slice sa low.length sc) bs q u (madTo q (madR P D low a) (i * q + k))) (fun s _ _ => q - (intOf s).toNat)
      case atStart => exact ⟨0, _, by omega, rfl, HR3.out⟩
      case round =>
        clear HR3
        obtain ⟨k, u, hk, rfl, hR⟩ := hrel
        have HR := Lib.hid hR; clear hR
        by_cases hkl : k < q
        · obtain ⟨⟨k0, k1, k2⟩, _⟩ := HR.out.mz.cells
          go_wp2_with fail
          refine (HSu.out m k wr (by omega) (by omega)).mono ?_
          rintro e w4 ⟨rfl, hb4⟩
          have HR4 := Lib.hid (HR.out.next hb4)
          obtain ⟨ua, ul, uc, rfl⟩ := HR4.out.own.shape
          have o1 := HR4.out.out.cell (show 1 < 2 by omega)
          have hbs := HR4.out.hi
          have hin : i * q + k < 64 := by
            have := place_lt hlt hkl
            have : q * q ≤ 8 * 8 := Nat.mul_le_mul h8 h8
            omega
          have HL9 : Hid ((madTo q (madR P D low a) (i * q + k)).length < 1000000000) := by show _ < _; rw [madTo_len]; omega
          have HSn : Hid (madTo q (madR P D low a) (i * q + k + 1) = madTo q (madR P D low a) (i * q + k) ++ [((addV P D m k : Nat) : Int)]) := by show _ = _; rw [madTo_succ _ hkl, HMi.out k]
          clear hb4 k0 k1 k2
          generalize addV P D m k = s at *
          go_wp2_with (at_builtin; refine app_own rfl _ _ rfl rfl (HR4.out.own.alloc _) _ _ rfl (by rw [World.cell?_alloc_new]; rfl) HL9.out (by rw [World.size_alloc]; omega) ?_; intro v' w5 hown hgrow; obtain ⟨va, vl, vc, rfl⟩ := hown.shape; have HR5 := Lib.hid ((HR4.out.next (below_box _ _)).push hown hgrow); obtain ⟨y1, y2⟩ := (HR4.out.next (below_box _ _)).spot hgrow; clear hown hgrow)
          rw [← HSn.out] at HR5
          go_roundw
          case rel => exact ⟨k + 1, _, by omega, by go_num, HR5.out⟩
          case measure => simp [intOf]; omega
        · obtain rfl : k = q := by omega
          have HN : Hid (MoRel w wr P D (.slice sa low.length sc) bs k u (madTo k (madR P D low a) ((i + 1) * k))) := by rw [Nat.add_mul, Nat.one_mul]; exact HR.out
          go_wp2_with fail
          go_roundw
          case rel => exact ⟨i + 1, _, by omega, by go_num, HN.out⟩
          case measure => simp [intOf]; omega
    · obtain rfl : i = q := by omega
      obtain ⟨va, vl, vc, rfl⟩ := HR.out.own.shape
      have o0 := HR.out.out.cell (show 0 < 2 by omega); have o1 := HR.out.out.cell (show 1 < 2 by omega)
      obtain ⟨_, ⟨l0, l1, l2, l3⟩⟩ := HR.out.mz.cells
      have hlo := HR.out.lo
      go_wp2_with fail
      refine bodyPost_ret (results_arrT (p := 4) (u := 5) rfl ((HR.out.mz.rb.set (show 0 < 2 by omega) (.int .i64 i)).set (show 1 < 2 by omega) (.slice va vl vc)) Tryd.underlying26 rfl (by kernel_rfl) rfl) rfl ⟨.slice va vl vc, rfl, ?_, HR.out.own.far (by omega), HR.out.mz.fin _ _⟩
      refine Own.intsAt ((HR.out.own.setFar (by show w.heap.size + 1 < _; omega) _).setFar (by show w.heap.size + 1 < _; omega) _) ?_
      rw [madTo_len]
      have : i * i ≤ 8 * 8 := Nat.mul_le_mul h8 h8
      omega
end Go.Proofs.YtdbfpdhcaiiiaaaDoor
