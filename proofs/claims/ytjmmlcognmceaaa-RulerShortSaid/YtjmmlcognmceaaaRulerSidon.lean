/-
  The walk of RulerSidon: it returns true, and what there was is as it was. No condition.
-/
import Derived.Test.YtjmmlcognmceaaaRulerFact
import Derived.Test.YtjmmlcognmceaaaGolSid
import Derived.Test.YtjmmlcognmceaaaClone
namespace Go.Proofs.Ytjmmlcognmceaaa
open Go.RowKit

theorem marks_set {xs : List Int} (h : IsMarks xs) {n : Int} (hn : 1 ≤ n) (h60 : n ≤ 60) (hl : 0 < xs.length → ix xs (xs.length - 1) < n) : IsSet n xs :=
  ⟨hn, h60, fun k hk => ⟨(h.upto k hk).1, by have := inc_le h.inc (show k ≤ xs.length - 1 by omega) (by omega); have := hl (by omega); omega⟩, h.inc⟩

set_option maxRecDepth 100000 in
set_option maxHeartbeats 2000000 in
theorem rulerSidon_walk (v : Value) (xs : List Int) (n : Int) (w : World)
    (h : IntsAt w v xs) (_ : Fits xs) (_ : -9223372036854775808 ≤ n ∧ n ≤ 9223372036854775807) :
    Calls Try.prog 6 #[v, .int .i64 n] w fun e w' => e = .returned (.bool true) ∧ Below w.heap.size w w' := by
  have HI := Lib.hid h
  obtain ⟨a, c, hv, _⟩ := h
  subst hv
  by_cases hm : marksFault xs = 0
  · have HM := Lib.hid (marks_of hm)
    clear hm
    by_cases hp : 0 < xs.length
    · obtain ⟨b, o, rfl⟩ := HI.out.some hp
      have hup := HM.out.upto (xs.length - 1) (by omega)
      have hpi : (((xs.length : Nat) : Int) == 0) = false := by rw [Bool.eq_false_iff, Ne, beq_iff_eq]; omega
      obtain ⟨t, ht⟩ : ∃ t, t = ix xs (xs.length - 1) := ⟨_, rfl⟩
      rw [← ht] at hup
      have hl60 := HM.out.few
      have HT := Lib.hid ht
      have HCell : Hid (∀ w', Below w.heap.size w w' → w'.cell? ⟨b, o + (xs.length - 1), none⟩ = some (.int .i64 t)) := by
        intro w' hb
        obtain ⟨_, _, e, _, _, _, h5⟩ := HI.out
        obtain ⟨b', o', e2, hlt, hc⟩ := h5 (xs.length - 1) (by omega)
        injection e with e3 _ _
        rw [← e3] at e2
        injection e2 with e2
        injection e2 with e4 e5 _
        subst e4; subst e5
        rw [(bcell hb).1 _ _ hlt, hc _ (by omega), HT.out]
      clear ht
      go_enter Try.func6, Try.ntmps6
      go_wp2_with fail
      refine (rulerFact_any _).mono ?_
      rintro e w1 ⟨rfl, hb⟩
      have H1 := Lib.hid hb; clear hb
      go_wp2_with fail
      refine (rcheck_ok (HI.out.below H1.out) HM.out).mono ?_
      rintro e w2 ⟨rfl, hb⟩
      have H2 := Lib.hid (belowTrans H1.out hb); clear hb
      have hcell := HCell.out w2 H2.out
      by_cases h2 : n ≤ 2 * t
      · go_wp2_with fail
        go_ret
        exact ⟨rfl, H2.out⟩
      · by_cases h60 : n ≤ 60
        · have HS := Lib.hid (marks_set HM.out (n := n) (by omega) h60 (fun _ => by rw [← HT.out]; omega))
          have HE := Lib.hid (gol_sid HM.out (v := n) (fun _ => by rw [← HT.out]; omega))
          go_wp2_with fail
          refine (sidon_ok (HI.out.below H2.out) HS.out).mono ?_
          rw [HE.out]
          rintro e w3 ⟨rfl, hb⟩
          have H3 := Lib.hid (belowTrans H2.out hb); clear hb
          generalize golB xs = G
          go_wp2_with fail
          go_ret
          exact ⟨ret_bool (by simp), H3.out⟩
        · have hf1 : setFault n xs = 1 := by unfold setFault; rw [if_pos (by omega)]
          have HF1 := Lib.hid hf1
          have HS := Lib.hid (show setFault n xs ≠ 0 by rw [hf1]; decide)
          have h60' : 60 < n := by omega
          clear hf1
          go_wp2_with fail
          refine (sidon_no (HI.out.below H2.out) HS.out).mono ?_
          rw [HF1.out]
          rintro e w3 ⟨rfl, hb⟩
          have H3 := Lib.hid (belowTrans H2.out hb); clear hb
          go_wp2_with fail
          go_ret
          exact ⟨ret_bool (by simp), H3.out⟩
    · have hpi : (((xs.length : Nat) : Int) == 0) = true := by simp only [show xs.length = 0 by omega]; decide
      clear hp
      go_enter Try.func6, Try.ntmps6
      go_wp2_with fail
      refine (rulerFact_any _).mono ?_
      rintro e w1 ⟨rfl, hb⟩
      have H1 := Lib.hid hb; clear hb
      go_wp2_with fail
      refine (rcheck_ok (HI.out.below H1.out) HM.out).mono ?_
      rintro e w2 ⟨rfl, hb⟩
      have H2 := Lib.hid (belowTrans H1.out hb); clear hb
      go_wp2_with fail
      go_ret
      exact ⟨rfl, H2.out⟩
  · have HM := Lib.hid hm
    have em : (marksFault xs != 0) = true := by simpa using hm
    clear hm
    go_enter Try.func6, Try.ntmps6
    go_wp2_with fail
    refine (rulerFact_any _).mono ?_
    rintro e w1 ⟨rfl, hb⟩
    have H1 := Lib.hid hb; clear hb
    go_wp2_with fail
    refine (rcheck_no (HI.out.below H1.out) HM.out).mono ?_
    rintro e w2 ⟨rfl, hb⟩
    have H2 := Lib.hid (belowTrans H1.out hb); clear hb
    go_wp2_with fail
    go_ret
    exact ⟨rfl, H2.out⟩
end Go.Proofs.Ytjmmlcognmceaaa
