/-
  Contract: latin.Made. No condition but that the table of primes reads as it is laid.
-/
import Derived.Test.YtdbfpdhcaiiiaaaDoorFMade
namespace Go.Proofs.YtdbfpdhcaiiiaaaDoor
open Go.RowKit

/-- What is wrong with a field and an element that a square is made of. -/
def madeFault (p d : Int) (low : List Int) (a : Int) : Int :=
  if fieldFault p d low ≠ 0 then fieldFault p d low else if a < 1 ∨ ((ordQ p d : Nat) : Int) ≤ a then 1 else if 8 < ordQ p d then 3 else 0
theorem made_of {p d : Int} {low : List Int} {a : Int} (h : madeFault p d low a = 0) : ∃ P D A : Nat, p = P ∧ d = D ∧ a = A ∧ IsField P D low ∧ 1 ≤ A ∧ A < P ^ D ∧ P ^ D ≤ 8 := by
  unfold madeFault at h
  by_cases hf : fieldFault p d low = 0
  · rw [if_neg (by simp [hf])] at h
    obtain ⟨hF, h1, h2⟩ := field_of hf
    obtain ⟨P, rfl⟩ := Int.eq_ofNat_of_zero_le h1
    obtain ⟨D, rfl⟩ := Int.eq_ofNat_of_zero_le h2
    rw [Int.toNat_natCast, Int.toNat_natCast] at hF
    rw [hF.q] at h
    by_cases h3 : a < 1 ∨ ((P ^ D : Nat) : Int) ≤ a
    · rw [if_pos h3] at h; cases h
    · rw [if_neg h3] at h
      by_cases h4 : 8 < P ^ D
      · rw [if_pos h4] at h; cases h
      · obtain ⟨A, rfl⟩ := Int.eq_ofNat_of_zero_le (show 0 ≤ a by omega)
        exact ⟨P, D, A, rfl, rfl, rfl, hF, by omega, by omega, by omega⟩
  · rw [if_pos hf] at h; exact absurd h hf
theorem with_aa {P D : Nat} {low : List Int} (hF : IsField P D low) (a : Int) : withFault P D low [a, a] = if 0 ≤ a ∧ a < ((P ^ D : Nat) : Int) then 0 else 1 := by
  by_cases h : 0 ≤ a ∧ a < ((P ^ D : Nat) : Int)
  · rw [if_pos h]
    exact with_fine hF fun x hx => by
      simp only [List.mem_cons, List.not_mem_nil, or_false, or_self] at hx
      subst hx; exact h
  · rw [if_neg h]
    unfold withFault
    rw [if_neg (by simp [fault_of hF]), if_pos]
    refine List.any_eq_true.2 ⟨a, by simp, ?_⟩
    unfold outQ; rw [hF.q, decide_eq_true_eq]; omega
/-- What stands in memory when Made has looked at its field. -/
structure MdRel (w wr : World) (p d a : Int) (v : Value) : Prop where
  bel : Below w.heap.size w wr
  lt : w.heap.size + 2 < wr.heap.size
  fb : Arr wr w.heap.size 3 (three (.int .i64 p) (.int .i64 d) v)
  ab : wr.cell? ⟨w.heap.size + 1, 0, none⟩ = some (.int .i64 a)
  rb : Arr wr (w.heap.size + 2) 2 (fun j => if j = 0 then .int .i64 0 else .slice none 0 0)
theorem md_start (w : World) (p d a : Int) (v : Value) : MdRel w (((w.alloc (.cells #[.int .i64 p, .int .i64 d, v] 24)).alloc (.cells #[.int .i64 a] 3)).alloc (.cells #[.int .i64 0, .slice none 0 0] 26)) p d a v := by
  have h2 := arr_sq ((w.alloc (.cells #[.int .i64 p, .int .i64 d, v] 24)).alloc (.cells #[.int .i64 a] 3)) (.int .i64 0) (.slice none 0 0) 26
  have h1 := World.cell?_alloc_new (w.alloc (.cells #[.int .i64 p, .int .i64 d, v] 24)) #[.int .i64 a] 3 0
  simp only [World.size_alloc] at h1 h2
  refine ⟨belowTrans (belowTrans (below_box _ _) (below_box _ _)) (below_box _ _), by simp, Arr.alloc (Arr.alloc (three_new w _ _ _ _) _) _, ?_, h2⟩
  rw [World.cell?_alloc_old _ _ _ (by simp)]
  exact h1
theorem MdRel.step {w wr W : World} {p d a : Int} {v : Value} (h : MdRel w wr p d a v) (hb : Below wr.heap.size wr W) : MdRel w W p d a v :=
  ⟨belowTrans h.bel hb, Nat.lt_of_lt_of_le h.lt hb.size, Arr.below h.fb hb, (hb.cell (p := ⟨w.heap.size + 1, 0, none⟩) (by have := h.lt; show w.heap.size + 1 < _; omega)).trans h.ab, Arr.below h.rb hb⟩
theorem MdRel.cells {w wr : World} {p d a : Int} {v : Value} (h : MdRel w wr p d a v) :
    (wr.cell? ⟨w.heap.size, 0, none⟩ = some (.int .i64 p) ∧ wr.cell? ⟨w.heap.size, 1, none⟩ = some (.int .i64 d) ∧ wr.cell? ⟨w.heap.size, 2, none⟩ = some v) ∧
    (wr.cell? ⟨w.heap.size + 2, 0, none⟩ = some (.int .i64 0) ∧ wr.cell? ⟨w.heap.size + 2, 1, none⟩ = some (.slice none 0 0) ∧ wr.frozen? ⟨w.heap.size + 2, 0, none⟩ = false ∧ wr.frozen? ⟨w.heap.size + 2, 1, none⟩ = false) :=
  ⟨⟨h.fb.cell (show 0 < 3 by omega), h.fb.cell (show 1 < 3 by omega), h.fb.cell (show 2 < 3 by omega)⟩, h.rb.cell (show 0 < 2 by omega), h.rb.cell (show 1 < 2 by omega), h.rb.free (show 0 < 2 by omega), h.rb.free (show 1 < 2 by omega)⟩
theorem MdRel.fin {w wr : World} {p d a : Int} {v : Value} (h : MdRel w wr p d a v) (x y : Value) : Below w.heap.size w ((wr.setCell ⟨w.heap.size + 2, 0, none⟩ x).setCell ⟨w.heap.size + 2, 1, none⟩ y) :=
  (h.bel.setCell (by show _ ≤ w.heap.size + 2; omega) _).setCell (by show _ ≤ w.heap.size + 2; omega) _
/-- What Made hands back where there is no square. -/
def NoSq (f : Int) (w : World) (e : Ending) (w' : World) : Prop := e = .returned (.tuple #[.agg #[.int .i64 0, .slice none 0 0], .int .i64 f]) ∧ Below w.heap.size w w'
/-- A square of this side and these cells, with the errno OK. -/
def SqPost (n : Nat) (xs : List Int) (w : World) (e : Ending) (w' : World) : Prop := ∃ v, e = .returned (.tuple #[.agg #[.int .i64 n, v], .int .i64 0]) ∧ IntsAt w' v xs ∧ FarV w.heap.size v ∧ Below w.heap.size w w'

set_option maxRecDepth 100000 in
set_option maxHeartbeats 3000000 in
theorem made_bad (p d a : Int) (v : Value) (low : List Int) (w : World) (h : IntsAt w v low) (hP : PrimesAt w) (hf : madeFault p d low a ≠ 0) :
    Calls Tryd.prog 10 #[.agg #[.int .i64 p, .int .i64 d, v], .int .i64 a] w (NoSq (madeFault p d low a) w) := by
  obtain ⟨sa, sc, rfl, _⟩ := id h
  have HS := Lib.hid (md_start w p d a (.slice sa low.length sc))
  have HM := Lib.hid (fmul_any p d a a _ low _ (h.below HS.out.bel) (hP.below HS.out.bel))
  have HFault : Hid (madeFault p d low a ≠ 0) := hf
  unfold OpPost at HM
  clear h hP
  by_cases h1 : withFault p d low [a, a] = 0
  · obtain ⟨P, D, rfl, rfl, hF, hx⟩ := with_ok h1
    have ha := hx a (by simp)
    obtain ⟨a, rfl⟩ := Int.eq_ofNat_of_zero_le ha.1
    have hF0 : fieldFault P D low = 0 := fault_of hF
    have HMF : Hid (madeFault P D low a = if (a : Int) < 1 then 1 else if 8 < P ^ D then 3 else 0) := by
      show _ = _
      unfold madeFault
      rw [if_neg (by simp [hF0]), hF.q]
      by_cases h2 : (a : Int) < 1
      · rw [if_pos (.inl h2), if_pos h2]
      · rw [if_neg (by omega), if_neg h2]
    rw [h1, if_pos rfl] at HM
    have hq64 := hF.q64
    have hp := hF.p2; have hp61 := hF.p61; have hd6 := hF.d6
    have ha2 := ha.2
    clear h1 hx ha hf hF0
    by_cases h2 : a = 0
    · have e2 : (((a : Nat) : Int) == 0) = true := by simp [h2]
      have HF1 : Hid (madeFault P D low a = 1) := by show _ = _; rw [HMF.out, if_pos (by omega)]
      clear h2
      go_enter Tryd.func10, Tryd.ntmps10
      go_wp2_with fail
      refine HM.out.mono ?_
      rintro e w1 ⟨rfl, hb1⟩
      have HR := Lib.hid (HS.out.step hb1)
      obtain ⟨⟨k0, k1, k2⟩, ⟨l0, l1, l2, l3⟩⟩ := HR.out.cells
      have k3 := HR.out.ab
      clear hb1
      go_wp2_with fail
      exact bodyPost_ret (results_arrT (p := 4) (u := 5) rfl ((HR.out.rb.set (show 0 < 2 by omega) (.int .i64 0)).set (show 1 < 2 by omega) (.slice none 0 0)) Tryd.underlying26 rfl (by kernel_rfl) rfl) rfl ⟨by rw [HF1.out]; rfl, HR.out.fin _ _⟩
    · have e2 : (((a : Nat) : Int) == 0) = false := by simp; omega
      have h8 : 8 < P ^ D := by
        have := HFault.out
        rw [HMF.out, if_neg (by omega)] at this
        by_cases h8 : 8 < P ^ D
        · exact h8
        · rw [if_neg h8] at this; exact absurd rfl this
      have HF1 : Hid (madeFault P D low a = 3) := by show _ = _; rw [HMF.out, if_neg (by omega), if_pos h8]
      have HQ8 := Lib.hid h8; have HQ := Lib.hid hq64
      clear h2 h8 hq64 ha2
      go_enter Tryd.func10, Tryd.ntmps10
      go_wp2_with fail
      refine HM.out.mono ?_
      rintro e w1 ⟨rfl, hb1⟩
      have HR := Lib.hid (HS.out.step hb1)
      obtain ⟨⟨k0, k1, k2⟩, ⟨l0, l1, l2, l3⟩⟩ := HR.out.cells
      have k3 := HR.out.ab
      clear hb1
      go_wp2_with fail
      go_loop [8, 25] (fun s i => ∃ k q : Nat, k ≤ D ∧ i = .int .i64 k ∧ s = .int .i64 q ∧ q = P ^ k) (fun _ i => D - (intOf i).toNat)
      case atStart => exact ⟨0, 1, by omega, rfl, rfl, by simp⟩
      case round =>
        obtain ⟨k, q, hk, rfl, rfl, hq⟩ := hrel
        have HQk := Lib.hid hq
        have hq64 : q ≤ 64 := by
          have h1 : P ^ k ≤ P ^ D := Nat.pow_le_pow_right (by omega) hk
          have := HQ.out; omega
        have hm : q * P ≤ 64 * 61 := Nat.mul_le_mul hq64 hp61
        have hv := mul_val (q := q) (p := P) (by omega)
        have HN : Hid (q * P = P ^ (k + 1)) := by show _ = _; rw [Nat.pow_succ, hq]
        obtain ⟨m, hm2⟩ : ∃ m, m = q * P := ⟨_, rfl⟩
        rw [← hm2] at hv hm HN
        clear hm2 hq
        by_cases hlt : k < D
        · go_wp2_with fail
          go_round
          case rel => exact ⟨k + 1, m, by omega, by go_num, by first | exact hv | rfl, HN.out⟩
          case measure => simp [intOf]; omega
        · obtain rfl : k = D := by omega
          have hq8 : 8 < q := by have := HQ8.out; have := HQk.out; omega
          clear hv
          go_wp2_with fail
          exact bodyPost_ret (results_arrT (p := 4) (u := 5) rfl ((HR.out.rb.set (show 0 < 2 by omega) (.int .i64 0)).set (show 1 < 2 by omega) (.slice none 0 0)) Tryd.underlying26 rfl (by kernel_rfl) rfl) rfl ⟨by rw [HF1.out]; rfl, HR.out.fin _ _⟩
  · rw [if_neg h1] at HM
    have HF1 : Hid (madeFault p d low a = withFault p d low [a, a]) := by
      show _ = _
      by_cases h0 : fieldFault p d low = 0
      · obtain ⟨hF, q1, q2⟩ := field_of h0
        obtain ⟨P, rfl⟩ := Int.eq_ofNat_of_zero_le q1
        obtain ⟨D, rfl⟩ := Int.eq_ofNat_of_zero_le q2
        rw [Int.toNat_natCast, Int.toNat_natCast] at hF
        have hw := with_aa hF a
        rw [hw]
        by_cases h5 : 0 ≤ a ∧ a < ((P ^ D : Nat) : Int)
        · rw [hw, if_pos h5] at h1; exact absurd rfl h1
        · rw [if_neg h5]
          unfold madeFault
          rw [if_neg (by simp [h0]), hF.q, if_pos (by omega)]
      · unfold madeFault withFault; rw [if_pos h0, if_pos h0]
    have e1 : (withFault p d low [a, a] != 0) = true := by simp [h1]
    clear h1 hf
    go_enter Tryd.func10, Tryd.ntmps10
    go_wp2_with fail
    refine HM.out.mono ?_
    rintro e w1 ⟨rfl, hb1⟩
    have HR := Lib.hid (HS.out.step hb1)
    obtain ⟨⟨k0, k1, k2⟩, ⟨l0, l1, l2, l3⟩⟩ := HR.out.cells
    have k3 := HR.out.ab
    clear hb1
    go_wp2_with fail
    exact bodyPost_ret (results_arrT (p := 4) (u := 5) rfl ((HR.out.rb.set (show 0 < 2 by omega) (.int .i64 0)).set (show 1 < 2 by omega) (.slice none 0 0)) Tryd.underlying26 rfl (by kernel_rfl) rfl) rfl ⟨by rw [HF1.out]; rfl, HR.out.fin _ _⟩

set_option maxRecDepth 100000 in
set_option maxHeartbeats 3000000 in
theorem made_yes (P D a : Nat) (v : Value) (low : List Int) (w : World) (h : IntsAt w v low) (hP : PrimesAt w) (hF : IsField P D low) (h1 : 1 ≤ a) (ha : a < P ^ D) (h8 : P ^ D ≤ 8) :
    Calls Tryd.prog 10 #[.agg #[.int .i64 P, .int .i64 D, v], .int .i64 a] w (SqPost (P ^ D) (madTo (P ^ D) (madC P D low a) (P ^ D * P ^ D)) w) := by
  obtain ⟨sa, sc, rfl, _⟩ := id h
  have HS := Lib.hid (md_start w P D a (.slice sa low.length sc))
  have m1 := fmul_any P D a a _ low _ (h.below HS.out.bel) (hP.below HS.out.bel)
  unfold OpPost at m1
  rw [with_fine hF (fun x hx => by
    simp only [List.mem_cons, List.not_mem_nil, or_false, or_self] at hx
    subst hx; omega), if_pos rfl] at m1
  have HM := Lib.hid m1
  have HI := Lib.hid h; have HP := Lib.hid hP; have HF := Lib.hid hF
  have HA := Lib.hid ha; have H8 := Lib.hid h8
  have hp := hF.p2; have hp61 := hF.p61; have hd6 := hF.d6
  have e2 : (((a : Nat) : Int) == 0) = false := by simp; omega
  clear h hP m1 hF ha h8
  go_enter Tryd.func10, Tryd.ntmps10
  go_wp2_with fail
  refine HM.out.mono ?_
  rintro e w1 ⟨rfl, hb1⟩
  have HR := Lib.hid (HS.out.step hb1)
  obtain ⟨⟨k0, k1, k2⟩, ⟨l0, l1, l2, l3⟩⟩ := HR.out.cells
  have k3 := HR.out.ab
  clear hb1
  go_wp2_with fail
  go_loop [8, 25] (fun s i => ∃ k q : Nat, k ≤ D ∧ i = .int .i64 k ∧ s = .int .i64 q ∧ q = P ^ k) (fun _ i => D - (intOf i).toNat)
  case atStart => exact ⟨0, 1, by omega, rfl, rfl, by simp⟩
  case round =>
    obtain ⟨k, q, hk, rfl, rfl, hq⟩ := hrel
    have HQk := Lib.hid hq
    have hq64 : q ≤ 8 := by
      have h1 : P ^ k ≤ P ^ D := Nat.pow_le_pow_right (by omega) hk
      have := H8.out; omega
    have hm : q * P ≤ 64 * 61 := Nat.mul_le_mul (by omega) hp61
    have hv := mul_val (q := q) (p := P) (by omega)
    have HN : Hid (q * P = P ^ (k + 1)) := by show _ = _; rw [Nat.pow_succ, hq]
    obtain ⟨m, hm2⟩ : ∃ m, m = q * P := ⟨_, rfl⟩
    rw [← hm2] at hv hm HN
    clear hm2 hq
    by_cases hlt : k < D
    · go_wp2_with fail
      go_round
      case rel => exact ⟨k + 1, m, by omega, by go_num, by first | exact hv | rfl, HN.out⟩
      case measure => simp [intOf]; omega
    · obtain rfl : k = D := by omega
      have hq1 : 1 ≤ q := by rw [HQk.out]; exact pow_one_le (by omega) k
      have HFi : Hid (Calls Tryd.prog 26 #[.int .i64 q, .func (.func 29) #[] #[.pointer (some ⟨w.heap.size, 0, none⟩), .pointer (some ⟨w.heap.size + 1, 0, none⟩)]] w1 fun e w' =>
          ∃ v, e = .returned (.agg #[.int .i64 q, v]) ∧ Own w' (w1.heap.size + 2) 3 v (madTo q (madC P k low a) (q * q)) ∧ Below w1.heap.size w1 w') :=
        filled_made q _ _ (madC P k low a) w1 hq1 hq64 (fun i j W hi hj hW => by
          rw [HQk.out] at hi hj
          have HRW := HR.out.step hW
          exact made1_any P k a i j _ _ _ low W (HI.out.below HRW.bel) HF.out (HP.out.below HRW.bel) HA.out hi hj (HRW.fb.cell (show 0 < 3 by omega)) (HRW.fb.cell (show 1 < 3 by omega)) (HRW.fb.cell (show 2 < 3 by omega)) HRW.ab (by have := HRW.lt; omega))
      clear hv
      go_wp2_with fail
      refine HFi.out.mono ?_
      rintro e w2 ⟨v2, rfl, hown, hb2⟩
      have HR2 := Lib.hid (HR.out.step hb2)
      obtain ⟨va, vl, vc, rfl⟩ := hown.shape
      obtain ⟨_, ⟨y0, y1, y2, y3⟩⟩ := HR2.out.cells
      have HO := Lib.hid hown
      have hz := HR.out.lt
      clear hown hb2 k0 k1 k2 k3 l0 l1 l2 l3
      go_wp2_with fail
      refine bodyPost_ret (results_arrT (p := 4) (u := 5) rfl ((HR2.out.rb.set (show 0 < 2 by omega) (.int .i64 q)).set (show 1 < 2 by omega) (.slice va vl vc)) Tryd.underlying26 rfl (by kernel_rfl) rfl) rfl ⟨.slice va vl vc, by rw [← HQk.out]; rfl, ?_, HO.out.far (by omega), HR2.out.fin _ _⟩
      rw [← HQk.out]
      refine Own.intsAt ((HO.out.setFar (by show w.heap.size + 2 < _; omega) _).setFar (by show w.heap.size + 2 < _; omega) _) ?_
      rw [madTo_len]
      have : q * q ≤ 8 * 8 := Nat.mul_le_mul hq64 hq64
      omega
end Go.Proofs.YtdbfpdhcaiiiaaaDoor
