/-
  Contract: the reference's ExtendFault. No condition.
-/
import Derived.Test.YtkmfhnjadpdkeaaExtend
namespace Go.Proofs.Ytkmfhnjadpdkeaa
open Go.RowKit

theorem outB_hit {n : Nat} {xs : List Int} {j : Nat} (hj : j < xs.length) (e : outB n (ix xs j) = true) : anyB (outB n) xs = true := any_of_hit hj e
theorem extFault_rows {n : Nat} {xss : List (List Int)} (h1 : 1 ≤ n) (h8 : n ≤ 8) (hr : xss.length ≤ n) :
    extFault n xss = if rowsF n xss xss.length = 0 then (if onceB n (flat xss xss.length) then 0 else 6) else rowsF n xss xss.length := by
  unfold extFault
  rw [if_neg (by omega), if_neg (by omega), Int.toNat_natCast]

set_option maxRecDepth 100000 in
set_option maxHeartbeats 1000000 in
theorem extFault_any (n : Int) (v : Value) (xss : List (List Int)) (w : World) (h : RowsAt w v xss) :
    Calls Try.prog 25 #[.int .i64 n, v] w fun e w' => e = .returned (.int .i64 (extFault n xss)) ∧ Below w.heap.size w w' := by
  obtain ⟨a, c, V, rfl, q1, q2, _, q3⟩ := h
  have HR := Lib.hid q3; clear q3
  by_cases s1 : n < 1
  · have H : Hid (extFault n xss = 1) := by show _ = _; unfold extFault; rw [if_pos (.inl s1)]
    have ed : decide (n < 1) = true := by simpa using s1
    go_enter Try.func25, Try.ntmps25
    go_wp2_with fail
    go_ret
    exact ⟨ret_int H.out.symm, Below.refl _ _⟩
  · have ed : decide (n < 1) = false := by simpa using s1
    by_cases s2 : 8 < n
    · have H : Hid (extFault n xss = 1) := by show _ = _; unfold extFault; rw [if_pos (.inr s2)]
      have ed2 : decide (8 < n) = true := by simpa using s2
      go_enter Try.func25, Try.ntmps25
      go_wp2_with fail
      go_ret
      exact ⟨ret_int H.out.symm, Below.refl _ _⟩
    · have ed2 : decide (8 < n) = false := by simpa using s2
      obtain ⟨n, rfl⟩ := Int.eq_ofNat_of_zero_le (show 0 ≤ n by omega)
      by_cases s3 : n < xss.length
      · have H : Hid (extFault n xss = 3) := by show _ = _; unfold extFault; rw [if_neg (by omega), if_pos (by omega)]
        go_enter Try.func25, Try.ntmps25
        go_wp2_with fail
        go_ret
        exact ⟨ret_int H.out.symm, Below.refl _ _⟩
      · have H : Hid (extFault n xss = if rowsF n xss xss.length = 0 then (if onceB n (flat xss xss.length) then 0 else 6) else rowsF n xss xss.length) :=
          extFault_rows (by omega) (by omega) (by omega)
        have hd : decide (n < xss.length) = false := by simp; omega
        go_enter Try.func25, Try.ntmps25
        go_wp2_with fail
        go_loopw [5, 6] (fun sc s wr => ∃ (k : Nat) (v : Value), k ≤ xss.length ∧ s = .int .i64 k ∧ sc = v ∧ rowsF n xss k = 0 ∧ Own wr w.heap.size 3 v (flat xss k) ∧ Below w.heap.size w wr) (fun _ s _ => xss.length - (intOf s).toNat)
        case atStart => exact ⟨0, _, by omega, rfl, rfl, rfl, own_nil _ _ _, Below.refl _ _⟩
        case round =>
          obtain ⟨k, v, hk, rfl, hsc, hf, ho, hb⟩ := hrel
          subst hsc
          have HF := Lib.hid hf; have HO := Lib.hid ho; have HB := Lib.hid hb
          clear hf ho hb
          by_cases hlt : k < xss.length
          · obtain ⟨hrow, b, o, rfl, hb, hc⟩ := HR.out k hlt
            have hcell0 := hc k hlt
            have HCell := Lib.hid hcell0
            have hcell : wr.cell? ⟨b, o + k, none⟩ = some (V k) := by rw [(bcell HB.out).1 _ _ hb]; exact hcell0
            have HRow := Lib.hid hrow
            obtain ⟨ra, rc, hV, e1, e2, _⟩ := hrow
            rw [hV] at hcell HRow HCell
            clear hc hV hcell0
            by_cases hl : (rx xss k).length = n
            · have hl' : ((((rx xss k).length : Nat) : Int) != (n : Int)) = false := by rw [hl]; simp
              have HL := Lib.hid hl
              have hflen := (flat_ok HF.out).1
              have hkn : k * n ≤ 64 := Nat.mul_le_mul (show k ≤ 8 by omega) (show n ≤ 8 by omega)
              have HFl : Hid ((flat xss k).length ≤ 64) := by show _ ≤ _; omega
              clear hflen hkn
              clear hl
              go_wp2_with fail
              clear hcell
              go_loopw [5, 7] (fun sc s wr => ∃ (j : Nat) (v : Value), j ≤ n ∧ s = .int .i64 j ∧ sc = v ∧ anyB (outB n) ((rx xss k).take j) = false ∧ Own wr w.heap.size 3 v (flat xss k ++ (rx xss k).take j) ∧ Below w.heap.size w wr) (fun _ s _ => n - (intOf s).toNat)
              case atStart => exact ⟨0, _, by omega, rfl, rfl, by simp [anyB], by simpa using HO.out, HB.out⟩
              case round =>
                clear HO HB
                obtain ⟨j, v, hj, rfl, hsc, ha, ho, hb⟩ := hrel
                subst hsc
                have HA := Lib.hid ha; have HO := Lib.hid ho; have HB := Lib.hid hb
                clear ha ho
                by_cases hjn : j < n
                · have hjl : j < (rx xss k).length := by rw [HL.out]; exact hjn
                  have hcell : wr.cell? ⟨b, o + k, none⟩ = some (.slice ra (rx xss k).length rc) := by rw [(bcell HB.out).1 _ _ (by assumption)]; exact HCell.out
                  obtain ⟨_, _, e, _, _, _, h5⟩ := HRow.out
                  injection e with e3 e4 e5
                  obtain ⟨rb, ro, er, hrb, hrc⟩ := h5 j hjl
                  have er2 := e3.trans er
                  subst er2
                  have hc1 := hrc j hjl
                  rw [← (bcell HB.out).1 _ _ hrb] at hc1
                  clear h5 hrc e3 e4 e5 er hb
                  by_cases x1 : ix (rx xss k) j < 0
                  · have ed : decide (ix (rx xss k) j < 0) = true := by simpa using x1
                    have Hbad := Lib.hid (outB_hit (n := n) hjl (outB_neg x1))
                    go_wp2_with fail
                    go_ret
                    refine ⟨ret_int ?_, HB.out⟩
                    rw [H.out, rowsF_hit HF.out (show rowF n (rx xss k) = 1 by unfold rowF; rw [if_neg (by simpa using HL.out), Hbad.out]; rfl) (by decide) hlt]; rfl
                  · have ed : decide (ix (rx xss k) j < 0) = false := by simpa using x1
                    cases ed2 : decide ((n : Int) ≤ ix (rx xss k) j)
                    · have Hok : Hid (outB n (ix (rx xss k) j) = false) := by show _ = _; rw [outB_pos x1, ed2]
                      have HI2 : Hid ((wr.alloc (.cells #[.int .i64 (ix (rx xss k) j)] 3)).cell? ⟨wr.heap.size, 0, none⟩ = some (.int .i64 (ix (rx xss k) j))) := World.cell?_alloc_new wr #[.int .i64 (ix (rx xss k) j)] 3 0
                      have HO2 := Lib.hid (HO.out.alloc (.cells #[.int .i64 (ix (rx xss k) j)] 3))
                      have hlen9 : (flat xss k ++ (rx xss k).take j).length < 1000000000 := by rw [List.length_append, List.length_take]; have := HFl.out; omega
                      have Hbz : Hid (w.heap.size ≤ (wr.alloc (.cells #[.int .i64 (ix (rx xss k) j)] 3)).heap.size) := by show _ ≤ _; have := HB.out.size; simp; omega
                      have Hlen9 := Lib.hid hlen9; clear hlen9
                      go_wp2_with (at_builtin; refine app_own rfl _ _ rfl rfl HO2.out wr.heap.size (ix (rx xss k) j) rfl HI2.out Hlen9.out Hbz.out ?_; intro v' w1 hown1 hgrow)
                      have HB1 : Hid (Below w.heap.size w w1) := (HB.out.trans (((Below.refl _ _).alloc HB.out.size _).grown hgrow Hbz.out (fun q hq => (HO.out.block q hq).1)))
                      have HO1 : Hid (Own w1 w.heap.size 3 v' (flat xss k ++ (rx xss k).take (j + 1))) := by
                        show Own _ _ _ _ _
                        rw [take_succ_ix hjl, ← List.append_assoc]; exact hown1
                      clear hown1 hgrow
                      go_roundw
                      case rel => exact ⟨j + 1, _, by omega, by go_num, rfl, by rw [any_take hjl, HA.out, Hok.out]; rfl, HO1.out, HB1.out⟩
                      case measure => simp [intOf]; omega
                    · have Hbad : Hid (anyB (outB n) (rx xss k) = true) := outB_hit (n := n) hjl (by rw [outB_pos x1, ed2])
                      go_wp2_with fail
                      go_ret
                      refine ⟨ret_int ?_, HB.out⟩
                      rw [H.out, rowsF_hit HF.out (show rowF n (rx xss k) = 1 by unfold rowF; rw [if_neg (by simpa using HL.out), Hbad.out]; rfl) (by decide) hlt]; rfl
                · obtain rfl : j = n := by omega
                  have Htk : Hid ((rx xss k).take j = rx xss k) := by show _ = _; rw [← HL.out, List.take_length]
                  rw [Htk.out] at HA HO
                  clear hb
                  go_wp2_with fail
                  go_roundw
                  case rel => exact ⟨k + 1, _, by omega, by go_num, rfl, by rw [rowsF_next HF.out]; unfold rowF; rw [if_neg (by simpa using HL.out), HA.out]; rfl, HO.out, HB.out⟩
                  case measure => simp [intOf]; omega
            · have hl' : ((((rx xss k).length : Nat) : Int) != (n : Int)) = true := by simp; omega
              have HL := Lib.hid hl; clear hl
              go_wp2_with fail
              go_ret
              refine ⟨ret_int ?_, HB.out⟩
              rw [H.out, rowsF_hit HF.out (show rowF n (rx xss k) = 2 by unfold rowF; rw [if_pos HL.out]) (by decide) hlt]; rfl
          · obtain rfl : k = xss.length := by omega
            have hflen := (flat_ok HF.out).1
            have hkn : xss.length * n ≤ 64 := Nat.mul_le_mul (show xss.length ≤ 8 by omega) (show n ≤ 8 by omega)
            have HO2 := Lib.hid (once_any _ (flat xss xss.length) n wr (HO.out.intsAt (by omega)) (by omega) (by omega))
            clear hflen hkn
            cases eo : onceB n (flat xss xss.length)
            all_goals
              have Heo := Lib.hid eo
              rw [eo] at HO2
              clear eo
              go_wp2_with fail
              refine (HO2.out).mono ?_
              rintro e w2 ⟨rfl, nd, rfl⟩
              go_wp2_with fail
              go_ret
              exact ⟨ret_int (by rw [H.out, HF.out, Heo.out]; rfl), below_drewN HB.out _⟩
end Go.Proofs.Ytkmfhnjadpdkeaa
