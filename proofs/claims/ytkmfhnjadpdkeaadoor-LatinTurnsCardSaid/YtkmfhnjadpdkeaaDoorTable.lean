/-
  Contract: quasi.open, the table of a square. No condition.
-/
import Derived.Test.YtkmfhnjadpdkeaaDoorLatin3
import Derived.Test.YtkmfhnjadpdkeaaDoorTab
namespace Go.Proofs.YtkmfhnjadpdkeaaDoor
open Go.RowKit

/-- What the table of a square holds behind k cells: its side, then eight rows of eight. -/
def tfill (n : Int) (xs : List Int) : Nat → Nat → Int
  | 0, j => if j = 0 then n else 0
  | k + 1, j => if j = 1 + dv k n.toNat * 8 + md k n.toNat then ix xs k else tfill n xs k j
/-- The elements that are none of this side. -/
def elemFault (side : Int) (xs es : List Int) : Int := if latinFault side xs ≠ 0 then latinFault side xs else if anyB (outB side) es then 1 else 0
/-- What the table holds. -/
def tabVal (side : Int) (xs es : List Int) : Nat → Int := if elemFault side xs es = 0 then tfill side xs xs.length else fun _ => 0
def tabOf (side : Int) (xs es : List Int) : Value := .agg (rowOf 65 (tabVal side xs es)).toArray

theorem zeros65 : Tryd.zeroCells58.toList = rowOf 65 (fun _ => 0) := by rfl
theorem tfill_zero (n : Int) (xs : List Int) : ∀ k, tfill n xs k 0 = n
  | 0 => by simp [tfill]
  | k + 1 => by rw [tfill, if_neg (by omega)]; exact tfill_zero n xs k
theorem tab_side {wr : World} {b k : Nat} {n : Int} {xs : List Int} (h : Nums wr b 65 (tfill n xs k)) : wr.cell? ⟨b, 0, none⟩ = some (.int .i64 n) := by
  have := Arr.cell h (show 0 < 65 by omega)
  rw [this]
  show some (Value.int .i64 (tfill n xs k 0)) = _
  rw [tfill_zero]
theorem tab_old {wr : World} {b j : Nat} {f : Nat → Int} (h : Nums wr b 65 f) (hj : j < 65) : (∃ x, wr.cell? ⟨b, j, none⟩ = some (.int .i64 x)) ∧ wr.frozen? ⟨b, j, none⟩ = false :=
  ⟨⟨f j, Arr.cell h hj⟩, Arr.free h hj⟩
theorem zeros65set (side : Int) (xs : List Int) : Tryd.zeroCells58.toList.set 0 (.int .i64 side) = rowOf 65 (tfill side xs 0) := by rfl
theorem tab0 {side : Int} {xs es : List Int} (h : elemFault side xs es ≠ 0) : rowOf 65 (fun _ => 0) = rowOf 65 (tabVal side xs es) := by
  unfold tabVal; rw [if_neg h]

set_option maxHeartbeats 1000000 in
theorem open_any (side : Int) (v u : Value) (xs es : List Int) (w : World) (h : IntsAt w v xs) (g : IntsAt w u es) :
    Calls Tryd.prog 35 #[.agg #[.int .i64 side, v], u] w fun e w' => e = .returned (.tuple #[tabOf side xs es, .int .i64 (elemFault side xs es)]) ∧ Below w.heap.size w w' := by
  have hI := h
  have gI := g
  obtain ⟨a, c, rfl, h1, h2, _, h3⟩ := h
  obtain ⟨a', c', rfl, g1, g2, _, g3⟩ := g
  have HB1 := Lib.hid (below_box w (.cells #[.int .i64 side, .slice a xs.length c] 24))
  have HB2 := Lib.hid (belowTrans HB1.out (below_box _ (.cells Tryd.zeroCells58 58)))
  cases e1 : (latinFault side xs != 0)
  · have l0 : latinFault side xs = 0 := by simpa using e1
    have L := Lib.hid (latin_of l0)
    obtain ⟨m, rfl⟩ := Int.eq_ofNat_of_zero_le (show 0 ≤ side by have := L.out.lo; omega)
    have hm1 : 1 ≤ m := by have := L.out.lo; omega
    have hm8 : m ≤ 8 := by have := L.out.hi; omega
    have Hlen : Hid (xs.length = m * m) := by show _ = _; have := L.out.len; rw [← Int.natCast_mul] at this; omega
    have Hf : Hid (elemFault (m : Int) xs es = if anyB (outB (m : Int)) es then 1 else 0) := by show _ = _; rw [elemFault, if_neg (by simpa using e1)]
    clear l0
    go_enter Tryd.func35, Tryd.ntmps35
    go_wp2_with fail
    refine (check_any _ _ xs _ (hI.below HB2.out)).mono ?_
    rintro e w1 ⟨rfl, hb1⟩
    obtain ⟨hz1, hz2, k1, k2, _, _⟩ : w.heap.size + 1 < w1.heap.size ∧ w.heap.size < w1.heap.size ∧ w1.cell? ⟨w.heap.size, 0, none⟩ = some (.int .i64 (m : Int)) ∧ w1.cell? ⟨w.heap.size, 1, none⟩ = some (.slice a xs.length c) ∧ True ∧ True := by
      have hz := hb1.size
      simp only [World.size_alloc] at hz
      have hn := fun i => World.cell?_alloc_new w #[.int .i64 (m : Int), .slice a xs.length c] 24 i
      have ho := fun i => World.cell?_alloc_old (w.alloc (.cells #[.int .i64 (m : Int), .slice a xs.length c] 24)) (.cells Tryd.zeroCells58 58) ⟨w.heap.size, i, none⟩ (by simp)
      refine ⟨by omega, by omega, ?_, ?_, trivial, trivial⟩
      · rw [hb1.cell (p := ⟨w.heap.size, 0, none⟩) (by simp; omega), ho, hn]; rfl
      · rw [hb1.cell (p := ⟨w.heap.size, 1, none⟩) (by simp; omega), ho, hn]; rfl
    have hR : Arr w1 (w.heap.size + 1) 65 (fun _ => .int .i64 0) := (Arr.newAt _ 65 _ _ _ _ (by simp) rfl).below hb1
    have HR := Lib.hid hR; clear hR
    have Hb1 := Lib.hid hb1; clear hb1
    go_wp2_with fail
    go_loop [20] (fun i => ∃ k : Nat, k ≤ es.length ∧ i = .int .i64 k ∧ anyB (outB (m : Int)) (es.take k) = false) (fun i => es.length - (intOf i).toNat)
    case atStart => exact ⟨0, by omega, rfl, by simp [anyB]⟩
    case round =>
      obtain ⟨k, hk, rfl, hn⟩ := hrel
      have Hn := Lib.hid hn; clear hn
      by_cases hlt : k < es.length
      · obtain ⟨b, o, rfl, hb, hc⟩ := g3 k hlt
        have hcell := hc k hlt
        rw [← HB2.out.cell (p := ⟨b, o + k, none⟩) hb, ← Hb1.out.cell (p := ⟨b, o + k, none⟩) (by simp; omega)] at hcell
        clear hc g3 h3
        have hd : outB (m : Int) (ix es k) = (decide (ix es k < 0) || decide ((m : Int) ≤ ix es k)) := by unfold outB; simp
        have Hd := Lib.hid hd; clear hd
        cases d1 : decide (ix es k < 0)
        · cases d2 : decide ((m : Int) ≤ ix es k)
          · have Ho : Hid (outB (m : Int) (ix es k) = false) := by show _ = _; rw [Hd.out, d1, d2]; rfl
            go_wp2
            go_round
            case rel => exact ⟨k + 1, by omega, by go_num, by rw [any_take hlt, Hn.out, Ho.out]; rfl⟩
            case measure => simp [intOf]; omega
          · have Ho : Hid (outB (m : Int) (ix es k) = true) := by show _ = _; rw [Hd.out, d1, d2]; rfl
            have He : Hid (elemFault (m : Int) xs es = 1) := by show _ = _; rw [Hf.out, any_of_hit hlt Ho.out]; rfl
            have Hne : Hid (elemFault (m : Int) xs es ≠ 0) := by show _ ≠ _; rw [He.out]; decide
            obtain ⟨W, q1, q2, q3, q4, q5, q6⟩ := Nums.stores (P := Tryd.prog) HR.out (fun _ => 0)
            rw [← zeros65] at q1
            have Q2 := Lib.hid q2; have Q6 := Lib.hid q6
            clear q2 q3 q4 q5 q6
            go_wp2_with fail
            refine bodyPost_ret (results_tab (p := 4) (u := 5) rfl Q2.out Tryd.underlying58 rfl (by kernel_rfl) rfl) rfl ⟨?_, ?_⟩
            · refine ret_tup2 ?_ (by rw [He.out]; rfl)
              unfold tabOf; rw [← tab0 Hne.out]
            · exact (belowTrans HB2.out Hb1.out).trans (Q6.out _ (Nat.le_succ _))
        · have Ho : Hid (outB (m : Int) (ix es k) = true) := by show _ = _; rw [Hd.out, d1]; rfl
          have He : Hid (elemFault (m : Int) xs es = 1) := by show _ = _; rw [Hf.out, any_of_hit hlt Ho.out]; rfl
          have Hne : Hid (elemFault (m : Int) xs es ≠ 0) := by show _ ≠ _; rw [He.out]; decide
          obtain ⟨W, q1, q2, q3, q4, q5, q6⟩ := Nums.stores (P := Tryd.prog) HR.out (fun _ => 0)
          rw [← zeros65] at q1
          have Q2 := Lib.hid q2; have Q6 := Lib.hid q6
          clear q2 q3 q4 q5 q6
          go_wp2_with fail
          refine bodyPost_ret (results_tab (p := 4) (u := 5) rfl Q2.out Tryd.underlying58 rfl (by kernel_rfl) rfl) rfl ⟨?_, ?_⟩
          · refine ret_tup2 ?_ (by rw [He.out]; rfl)
            unfold tabOf; rw [← tab0 Hne.out]
          · exact (belowTrans HB2.out Hb1.out).trans (Q6.out _ (Nat.le_succ _))
      · obtain rfl : k = es.length := by omega
        have He : Hid (elemFault (m : Int) xs es = 0) := by show _ = _; rw [Hf.out]; have := Hn.out; rw [List.take_length] at this; rw [this]; rfl
        have hA : Arr (w1.alloc (.cells Tryd.zeroCells58 58)) w1.heap.size 65 (fun _ => .int .i64 0) := Arr.newAt _ 65 _ _ _ _ rfl rfl
        obtain ⟨W, q1, q2, q3, q4, q5, q6⟩ := Nums.stores (P := Tryd.prog) hA (tfill (m : Int) xs 0)
        rw [← zeros65set] at q1
        have hzW : w1.heap.size < W.heap.size := by rw [q5]; simp
        have hzW1 : w.heap.size + 1 < W.heap.size := by omega
        have hzW2 : w.heap.size < W.heap.size := by omega
        have hW : Below w1.heap.size w1 W := (below_box w1 _).trans (q6 _ (Nat.le_refl _))
        have HW := Lib.hid hW
        have k1' : W.cell? ⟨w.heap.size, 0, none⟩ = some (.int .i64 (m : Int)) := by rw [hW.cell (p := ⟨w.heap.size, 0, none⟩) hz2]; exact k1
        have k2' : W.cell? ⟨w.heap.size, 1, none⟩ = some (.slice a xs.length c) := by rw [hW.cell (p := ⟨w.heap.size, 1, none⟩) hz2]; exact k2
        have HRW := Lib.hid (Arr.belowB HR.out hW hz1)
        have Q2 := Lib.hid q2
        clear q2 q3 q4 q5 q6 hA hW
        go_wp2_with fail
        go_loopw [40] (fun i wr => ∃ k : Nat, k ≤ xs.length ∧ i = .int .i64 k ∧ Below w1.heap.size W wr ∧ Nums wr w1.heap.size 65 (tfill m xs k)) (fun i _ => xs.length - (intOf i).toNat)
        case atStart => exact ⟨0, by omega, rfl, Below.refl _ _, Q2.out⟩
        case round =>
          obtain ⟨k, hk, rfl, hb, ht⟩ := hrel
          have Ht : Hid (Nums wr w1.heap.size 65 (tfill m xs k)) := ht
          clear ht
          by_cases hlt : k < xs.length
          · obtain ⟨b, o, rfl, hbb, hc⟩ := h3 k hlt
            have hcell := hc k hlt
            rw [← HB2.out.cell (p := ⟨b, o + k, none⟩) hbb, ← Hb1.out.cell (p := ⟨b, o + k, none⟩) (by simp; omega), ← HW.out.cell (p := ⟨b, o + k, none⟩) (by omega : b < w1.heap.size), ← hb.cell (p := ⟨b, o + k, none⟩) (by omega : b < w1.heap.size)] at hcell
            have hdv : dv k m < m := by unfold dv; exact (Nat.div_lt_iff_lt_mul (by omega)).2 (by rw [← Hlen.out]; exact hlt)
            have hmd : md k m < m := by unfold md; exact Nat.mod_lt k (by omega)
            have r0 := tab_side Ht.out
            have hd8 : dv k m < 8 := by omega
            have hm8' : md k m < 8 := by omega
            have hj : 1 + dv k m * 8 + md k m < 65 := by omega
            obtain ⟨⟨x0, r1⟩, r2⟩ := tab_old Ht.out hj
            clear hc h3 g3 hdv hmd hj
            have hm0 : ¬ m = 0 := by omega
            have hdI : ((dv k m : Nat) : Int) < 8 := by omega
            have hmI : ((md k m : Nat) : Int) < 8 := by omega
            have hq1 := wrap_dv (i := k) (n := m) (by omega)
            have hq2 : ((k : Int) % (m : Int)) = ((md k m : Nat) : Int) := by unfold md; omega
            go_wp2
            go_region
            all_goals
              clear hq1 hq2 r0 r1 r2
              go_wp2
              go_roundw
              case rel =>
                refine ⟨k + 1, by omega, by go_num, (hb.setCell (Nat.le_refl _) _).drew, ?_⟩
                exact (Arr.congr (Nums.set Ht.out (show 1 + dv k m * 8 + md k m < 65 by omega) _) (fun j _ => by rw [tfill, Int.toNat_natCast])).drew
              case measure => simp [intOf]; omega
          · obtain rfl : k = xs.length := by omega
            have hld := Nums.loads (P := Tryd.prog) Ht.out
            obtain ⟨V, q1, q2, q3, q4, q5, q6⟩ := Nums.stores (P := Tryd.prog) (Arr.belowB HRW.out hb hz1) (tfill m xs xs.length)
            have hzr : w.heap.size + 1 ≠ w1.heap.size := by omega
            go_wp2_with (with_reducible refine wpList_load_tab rfl 58 _ rfl _ rfl Ht.out Tryd.underlying58 rfl (by kernel_rfl) ?_)
            refine bodyPost_ret (results_tab (p := 4) (u := 5) rfl q2 Tryd.underlying58 rfl (by kernel_rfl) rfl) rfl ⟨?_, ?_⟩
            · refine ret_tup2 ?_ (by rw [He.out]; rfl)
              unfold tabOf tabVal; rw [if_pos He.out]
            · exact (((belowTrans HB2.out Hb1.out).trans (HW.out.mono (Nat.le_of_lt hz2))).trans (hb.mono (Nat.le_of_lt hz2))).trans (q6 _ (Nat.le_succ _))
  · have Hf : Hid (elemFault side xs es = latinFault side xs) := by show _ = _; rw [elemFault, if_pos (by simpa using e1)]
    have Hne : Hid (elemFault side xs es ≠ 0) := by show _ ≠ _; rw [Hf.out]; simpa using e1
    go_enter Tryd.func35, Tryd.ntmps35
    go_wp2_with fail
    refine (check_any _ _ xs _ (hI.below HB2.out)).mono ?_
    rintro e w1 ⟨rfl, hb1⟩
    have hR : Arr w1 (w.heap.size + 1) 65 (fun _ => .int .i64 0) := (Arr.newAt _ 65 _ _ _ _ (by simp) rfl).below hb1
    obtain ⟨W, q1, q2, q3, q4, q5, q6⟩ := Nums.stores (P := Tryd.prog) hR (fun _ => 0)
    rw [← zeros65] at q1
    have Q2 := Lib.hid q2; have Q6 := Lib.hid q6
    clear q2 q3 q4 q5 q6 hR
    go_wp2_with fail
    refine bodyPost_ret (results_tab (p := 4) (u := 5) rfl Q2.out Tryd.underlying58 rfl (by kernel_rfl) rfl) rfl ⟨?_, ?_⟩
    · refine ret_tup2 ?_ (by rw [Hf.out]; rfl)
      unfold tabOf; rw [← tab0 Hne.out]
    · exact (belowTrans HB2.out hb1).trans (Q6.out _ (Nat.le_succ _))

end Go.Proofs.YtkmfhnjadpdkeaaDoor
