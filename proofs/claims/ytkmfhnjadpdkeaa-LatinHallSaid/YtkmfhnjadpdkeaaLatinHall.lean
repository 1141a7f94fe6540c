/-
  The walk of LatinHall: it returns true, and what there was is as it was. No condition.
-/
import Derived.Test.YtkmfhnjadpdkeaaLatinExtends
import Derived.Test.YtkmfhnjadpdkeaaLatinFact
namespace Go.Proofs.Ytkmfhnjadpdkeaa
open Go.RowKit

theorem goOn_prefix {n : Nat} : ∀ (l : Nat) (xs ys : List Int), goOn n l xs = some ys → ∃ zs, ys = xs ++ zs := by
  intro l
  induction l with
  | zero => intro xs ys h; exact ⟨[], by simpa [goOn] using h.symm⟩
  | succ l ih =>
    intro xs ys h
    rw [goOn_succ] at h
    obtain ⟨c, _, hf⟩ := fsome_some h
    unfold goF at hf
    cases e : fitB n xs c
    · rw [e] at hf; cases hf
    · rw [e] at hf
      obtain ⟨zs, hz⟩ := ih _ _ hf
      exact ⟨[(c : Int)] ++ zs, by rw [hz, List.append_assoc]⟩
theorem flat_ix {n : Nat} {xss : List (List Int)} : ∀ {m : Nat}, rowsF n xss m = 0 → ∀ {i j : Nat}, i < m → j < n → ix (flat xss m) (i * n + j) = ix (rx xss i) j
  | 0, _, _, _, hi, _ => by omega
  | m + 1, h, i, j, hi, hj => by
    have h0 := rowsF_pre h m (by omega)
    have hl := (flat_ok h0).1
    rw [flat]
    by_cases e : i = m
    · subst e
      rw [← hl, ix_right]
    · rw [ix_append (by rw [hl]; exact place_lt' (by omega) hj)]
      exact flat_ix h0 (by omega) hj
theorem hall_row {n : Nat} {xss : List (List Int)} {ys : List Int} (hk : ExtOk n xss ys) {i : Nat} (hi : i < xss.length) : rx xss i = (ys.take (i * n + n)).drop (i * n) := by
  obtain ⟨zs, hz⟩ := goOn_prefix _ _ _ hk.go
  have hl := rows_len hk.rows hi
  have hle : i * n + n ≤ xss.length * n := by
    have : (i + 1) * n ≤ xss.length * n := Nat.mul_le_mul (by omega) (Nat.le_refl n)
    rw [Nat.add_mul] at this; omega
  have hfl := (flat_ok hk.rows).1
  have hys : i * n + n ≤ ys.length := by rw [hz, List.length_append]; omega
  refine ext_ix (by rw [hl, List.length_drop, List.length_take]; omega) fun j hj => ?_
  rw [hl] at hj
  rw [ix_drop, ix_take (by omega), hz, ix_append (by omega)]
  exact (flat_ix hk.rows hi hj).symm

set_option maxRecDepth 100000 in
set_option maxHeartbeats 1000000 in
theorem latinHall_walk (n : Int) (v : Value) (xss : List (List Int)) (w : World)
    (_ : -9223372036854775808 ≤ n ∧ n ≤ 9223372036854775807) (h : RowsAt w v xss) (_ : ∀ xs ∈ xss, Fits xs) :
    Calls Try.prog 11 #[.int .i64 n, v] w fun e w' => e = .returned (.bool true) ∧ Below w.heap.size w w' := by
  have HR := Lib.hid h
  obtain ⟨a, c, V, hv, _⟩ := h
  subst hv
  by_cases hf : extFault n xss = 0
  · obtain ⟨n, ys, rfl, hk⟩ := extend_ok hf
    have HK := Lib.hid hk
    have h1 := hk.one; have h8 := hk.eight; have hfew := hk.few
    have HLat := Lib.hid (hk.rect.latin h1 h8)
    have hyl := hk.rect.len
    have HYL := Lib.hid hyl
    have hnn : n * n ≤ 64 := Nat.mul_le_mul h8 h8
    clear hk hf hyl
    go_enter Try.func11, Try.ntmps11
    go_wp2_with fail
    refine (latinFact_any _).mono ?_
    rintro e w1 ⟨rfl, hb⟩
    have H1 := Lib.hid hb; clear hb
    go_wp2_with fail
    refine (extend_yes (HR.out.below H1.out) HK.out).mono ?_
    intro e w2 hp
    obtain ⟨v2, rfl, hI, hb⟩ := hp
    obtain ⟨va, vc, rfl, hvc, _⟩ := id hI
    have HI := Lib.hid hI
    have H2 := Lib.hid (belowTrans (belowTrans H1.out hb) (below_box _ (.cells #[.int .i64 n, .slice va ys.length vc] 24)))
    have HIs := Lib.hid (hI.below (below_box _ (.cells #[.int .i64 n, .slice va ys.length vc] 24)))
    clear hb hI
    go_wp2_with fail
    refine (check_any n _ ys _ HIs.out).mono ?_
    rw [HLat.out]
    rintro e w3 ⟨rfl, hb⟩
    have HB3 := Lib.hid hb
    have H3 := Lib.hid (belowTrans H2.out hb)
    obtain ⟨z1, z2, z3⟩ := box1 hb
    clear hb
    go_wp2_with fail
    go_loopw [10] (fun s wr => ∃ i : Nat, i ≤ xss.length ∧ s = .int .i64 i ∧ Below (w2.alloc (.cells #[.int .i64 n, .slice va ys.length vc] 24)).heap.size (w2.alloc (.cells #[.int .i64 n, .slice va ys.length vc] 24)) wr) (fun s _ => xss.length - (intOf s).toNat)
    case atStart => exact ⟨0, by omega, rfl, HB3.out⟩
    case round =>
      clear z1 z2 z3 H3 HB3
      obtain ⟨i, hi, rfl, hb⟩ := hrel
      have HB := Lib.hid hb
      obtain ⟨z1, z2, z3⟩ := box1 hb
      clear hb
      by_cases hlt : i < xss.length
      · have hq := place_lt' (r := xss.length) (n := n) hlt (show 0 < n by omega)
        have hle : i * n + n ≤ n * n := by
          have : (i + 1) * n ≤ n * n := Nat.mul_le_mul (by omega) (Nat.le_refl n)
          rw [Nat.add_mul] at this; omega
        have HRr := Lib.hid (HR.out.below (belowTrans H2.out HB.out))
        have Hrow := Lib.hid (hall_row HK.out hlt)
        obtain ⟨_, _, V', e, _, _, _, q3⟩ := HRr.out
        obtain ⟨hrow, b, o, er, hb, hc⟩ := q3 i hlt
        injection e with e1 e2 e3
        have er2 := e1.trans er
        subst er2
        have hcell := hc i hlt
        obtain ⟨ra, rc, hV, _, _, _⟩ := id hrow
        rw [hV] at hcell hrow
        have HRow := Lib.hid hrow
        have HS := Lib.hid (intsAt_sliv (HIs.out.below HB.out) (l := i * n) (h := i * n + n) (by omega) (by rw [HYL.out]; omega))
        rw [← Hrow.out] at HS
        have hmi := int_val (wrap_mul8 (i := i) (n := n) (by omega) (by omega))
        have hsl := fun W => run_mid W va ys.length vc (i * n) (i * n + n) (by omega) (by have := HYL.out; omega)
        clear hc hV q3 e1 e3 er hrow hq
        have hq0 : i * n ≤ 64 := by omega
        generalize i * n = q at *
        rw [Int.natCast_add] at hsl
        have HC : Hid (∀ m, Calls Try.prog 41 #[.slice ra (rx xss i).length rc, sliv va q (q + n) vc] (wr.drewN m) fun e w' => e = .returned (.bool true) ∧ ∃ nd, w' = (wr.drewN m).drewN nd) := fun m => by
          have := ints_any _ _ _ _ (wr.drewN m) HRow.out HS.out
          rw [eqI_refl] at this; exact this
        have hi1 : ((i : Nat) : Int) < ((xss.length : Nat) : Int) := by omega
        have hq1 : (0 : Int) ≤ (q : Int) + n := by omega
        have hq2 : ((q : Int) + n).toNat = q + n := by omega
        have hq3 : IntKind.i64.wrap ((q : Int) + n) = (q : Int) + n := IntWalk.i64_in _ (by omega)
        go_wp2_with fail
        go_quiet (exact Calls.quiet_of (HC.out _))
        clear hsl hmi hq1 hq2 hq3
        have H4 := Lib.hid (below_drewN HB.out nq)
        go_wp2_with fail
        go_roundw
        case rel => exact ⟨i + 1, by omega, by go_num, H4.out⟩
        case measure => simp [intOf]; omega
      · obtain rfl : i = xss.length := by omega
        go_wp2_with fail
        go_ret
        exact ⟨rfl, belowTrans H2.out HB.out⟩
  · have HF := Lib.hid hf
    have e2 : (extFault n xss != 0) = true := by simpa using hf
    clear hf
    go_enter Try.func11, Try.ntmps11
    go_wp2_with fail
    refine (latinFact_any _).mono ?_
    rintro e w1 ⟨rfl, hb⟩
    have H1 := Lib.hid hb; clear hb
    go_wp2_with fail
    refine (extend_no (HR.out.below H1.out) HF.out).mono ?_
    intro e w2 hp
    obtain ⟨rfl, hb⟩ := hp
    have H2 := Lib.hid (belowTrans (belowTrans H1.out hb) (below_box _ (.cells #[.int .i64 0, .slice none 0 0] 24))); clear hb
    go_wp2_with fail
    refine (extFault_any n _ xss _ (HR.out.below H2.out)).mono ?_
    rintro e w3 ⟨rfl, hb⟩
    have H3 := Lib.hid (belowTrans H2.out hb); clear hb
    go_wp2_with fail
    go_ret
    exact ⟨ret_bool (by simp), H3.out⟩
end Go.Proofs.Ytkmfhnjadpdkeaa
