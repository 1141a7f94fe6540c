/-
  The walk of RulerShort: it returns true, and what there was is as it was. No condition.
-/
import Derived.Test.YtjmmlcognmceaaaRulerBest
import Derived.Test.YtjmmlcognmceaaaRulerSidon
namespace Go.Proofs.Ytjmmlcognmceaaa
open Go.RowKit

/-- What a search finds is a ruler. -/
theorem mk_sound {e : Int} : ∀ {k : Nat} {l r : List Int}, mk e k l = some r → 0 < l.length → golB l = true → (∀ i, i + 1 < l.length → ix l i < ix l (i + 1)) →
    r.length = l.length + k ∧ golB r = true ∧ (∀ i, i + 1 < r.length → ix r i < ix r (i + 1)) ∧ ix r 0 = ix l 0 ∧ lastM r = e
  | 0, l, r, h, hp, hg, hi => by
    rw [mk] at h
    by_cases hl : lastM l = e
    · rw [if_pos hl] at h
      injection h with h
      subst h
      exact ⟨rfl, hg, hi, rfl, hl⟩
    · rw [if_neg hl] at h; cases h
  | k + 1, l, r, h, hp, hg, hi => by
    rw [mk_succ] at h
    obtain ⟨d, hd, hf⟩ := fsome_some h
    unfold mkF at hf
    cases eg : golB (l ++ [lastM l + 1 + d])
    · rw [eg] at hf; cases hf
    · rw [eg] at hf
      have e1 : ∀ i, i < l.length → ix (l ++ [lastM l + 1 + (d : Int)]) i = ix l i := fun i hi => by unfold ix; rw [List.getD_eq_getElem?_getD, List.getD_eq_getElem?_getD, List.getElem?_append_left hi]
      have e2 : ix (l ++ [lastM l + 1 + (d : Int)]) l.length = lastM l + 1 + d := by unfold ix; simp
      have ih := mk_sound (k := k) hf (by simp) eg (fun i hi2 => by
        simp at hi2
        by_cases e3 : i + 1 < l.length
        · rw [e1 i (by omega), e1 (i + 1) e3]; exact hi i e3
        · have : i + 1 = l.length := by omega
          have hlast : ix l i = lastM l := by unfold lastM; rw [show l.length - 1 = i by omega]
          rw [this, e2, e1 i (by omega), hlast]; omega)
      refine ⟨by rw [ih.1]; simp; omega, ih.2.1, ih.2.2.1, by rw [ih.2.2.2.1, e1 0 hp], ih.2.2.2.2⟩
theorem shortest_marks {n m : Nat} {r : List Int} (h : Shortest n m r) : r.length = n ∧ IsMarks r ∧ golB r = true ∧ lastM r = m := by
  have h1 := h.one; have h7 := h.seven; have h63 := h.high
  obtain ⟨a, b, c, d, e⟩ := mk_sound h.is (by decide) (by decide) (fun i hi => by simp at hi)
  have hlen : r.length = n := by rw [a]; simp; omega
  have hinc : incB r = true := inc_of fun i j hij hj => by
    have key : ∀ j, i < j → j < r.length → ix r i < ix r j := by
      intro j
      induction j with
      | zero => intro h; omega
      | succ j ih =>
        intro h1 h2
        have := c j h2
        by_cases e2 : i = j
        · subst e2; exact this
        · have := ih (by omega) (by omega); omega
    exact key j hij hj
  refine ⟨hlen, ⟨by omega, fun k hk => ?_, fun _ => by rw [d]; rfl, hinc⟩, b, e⟩
  have h0 : ix r 0 = 0 := by rw [d]; rfl
  have lo := inc_le hinc (show 0 ≤ k by omega) hk
  have hi := inc_le hinc (show k ≤ r.length - 1 by omega) (by omega)
  have hl : ix r (r.length - 1) = m := e
  omega
theorem shortest_least {n m : Nat} {r : List Int} (h : Shortest n m r) {xs : List Int} (hM : IsMarks xs) (hg : golB xs = true) (hl : xs.length = n) : (m : Int) ≤ lastM xs := by
  have h1 := h.one
  obtain ⟨x, zs, rfl⟩ : ∃ x zs, xs = x :: zs := by
    cases xs with
    | nil => simp at hl; omega
    | cons x zs => exact ⟨x, zs, rfl⟩
  have hx : x = 0 := hM.head (by simp)
  subst hx
  have hs := mk_isSome (e := lastM (0 :: zs)) (l := [0]) (zs := zs) hg rfl (fun i _ hi => inc_lt hM.inc (by omega) hi) (by decide)
  have hz : zs.length = n - 1 := by simp at hl; omega
  rw [hz] at hs
  have hup := hM.upto ((0 :: zs).length - 1) (by simp)
  have hlast : 0 ≤ lastM (0 :: zs) := hup.1
  obtain ⟨q, hq⟩ := Int.eq_ofNat_of_zero_le hlast
  rw [hq] at hs ⊢
  rcases Nat.lt_or_ge q m with a | a
  · rw [h.not q a] at hs; cases hs
  · omega

set_option maxRecDepth 100000 in
set_option maxHeartbeats 2000000 in
theorem rulerShort_walk (v : Value) (xs : List Int) (w : World) (h : IntsAt w v xs) (_ : Fits xs) :
    Calls Try.prog 8 #[v] w fun e w' => e = .returned (.bool true) ∧ Below w.heap.size w w' := by
  have HI := Lib.hid h
  obtain ⟨a, c, hv, _⟩ := h
  subst hv
  by_cases hm : marksFault xs = 0
  · have HM := Lib.hid (marks_of hm)
    have hl60 := HM.out.few
    clear hm
    by_cases hg : golB xs = true
    · have HG := Lib.hid hg
      clear hg
      by_cases hp : 0 < xs.length
      · by_cases h7 : xs.length ≤ 7
        · obtain ⟨m, r, hS⟩ := shortest_ex xs.length hp h7
          obtain ⟨r1, r2, r3, r4⟩ := shortest_marks hS
          have HS := Lib.hid hS
          have HR1 := Lib.hid r1; have HR2 := Lib.hid r2; have HR3 := Lib.hid r3; have HR4 := Lib.hid r4
          have hle := shortest_least hS HM.out HG.out rfl
          obtain ⟨b, o, rfl⟩ := HI.out.some hp
          have HCell : Hid (∀ w', Below w.heap.size w w' → w'.cell? ⟨b, o + (xs.length - 1), none⟩ = some (.int .i64 (lastM xs))) := by
            intro w' hb
            obtain ⟨_, _, e, _, _, _, h5⟩ := HI.out
            obtain ⟨b', o', e2, hlt, hc⟩ := h5 (xs.length - 1) (by omega)
            injection e with e3 _ _
            rw [← e3] at e2
            injection e2 with e2
            injection e2 with e4 e5 _
            subst e4; subst e5
            rw [(bcell hb).1 _ _ hlt, hc _ (by omega)]; rfl
          clear hS r1 r2 r3 r4
          have hd1 : decide (xs.length < 1) = false := by rw [decide_eq_false_iff_not]; omega
          have hd2 : decide (7 < xs.length) = false := by simp; omega
          have hpi : ¬ ((xs.length : Int) < 1) := by omega
          have h7i : ¬ ((7 : Int) < (xs.length : Int)) := by omega
          go_enter Try.func8, Try.ntmps8
          go_wp2_with fail
          refine (rulerFact_any _).mono ?_
          rintro e w1 ⟨rfl, hb⟩
          have H1 := Lib.hid hb; clear hb
          go_wp2_with fail
          refine (rcheck_ok (HI.out.below H1.out) HM.out).mono ?_
          rw [HG.out]
          rintro e w2 ⟨rfl, hb⟩
          have H2 := Lib.hid (belowTrans H1.out hb); clear hb
          go_wp2_with fail
          refine (best_call xs.length _).mono ?_
          intro e w3 hp3
          obtain ⟨hb, hp3⟩ := hp3
          rw [if_pos (show 1 ≤ (xs.length : Int) ∧ (xs.length : Int) ≤ 7 by omega)] at hp3
          obtain ⟨v3, rfl, hI3⟩ := hp3 m r (by rw [Int.toNat_natCast]; exact HS.out)
          obtain ⟨va, vc, hv3, _⟩ := id hI3
          rw [HR1.out] at hv3
          subst hv3
          have HI3 := Lib.hid hI3
          have H3 := Lib.hid (belowTrans H2.out hb)
          clear hb hp3 hI3
          go_wp2_with fail
          refine (rcheck_ok HI3.out HR2.out).mono ?_
          rw [HR3.out]
          rintro e w4 ⟨rfl, hb⟩
          have HI4 := Lib.hid (HI3.out.below hb)
          have H4 := Lib.hid (belowTrans H3.out hb); clear hb
          have hcell := HCell.out w4 H4.out
          obtain ⟨b4, o4, rfl⟩ := HI4.out.some (by rw [HR1.out]; exact hp)
          have hcell2 : w4.cell? ⟨b4, o4 + (xs.length - 1), none⟩ = some (.int .i64 m) := by
            obtain ⟨_, _, e, _, _, _, h5⟩ := HI4.out
            obtain ⟨b', o', e2, hlt, hc⟩ := h5 (xs.length - 1) (by rw [HR1.out]; omega)
            injection e with e3 _ _
            rw [← e3] at e2
            injection e2 with e2
            injection e2 with e4 e5 _
            subst e4; subst e5
            rw [hc _ (by rw [HR1.out]; omega)]
            have := HR4.out
            unfold lastM at this
            rw [HR1.out] at this
            rw [this]
          have i1 : (0 : Int) ≤ (xs.length : Int) - 1 := by omega
          have i2 : (xs.length : Int) - 1 < (xs.length : Int) := by omega
          have i3 : ((xs.length : Int) - 1).toNat = xs.length - 1 := by omega
          have i4 : IntKind.i64.wrap ((xs.length : Int) - 1) = (xs.length : Int) - 1 := IntWalk.i64_in _ (by omega)
          have hdle : decide ((m : Int) ≤ lastM xs) = true := by simpa using hle
          go_wp2_with fail
          go_quiet (fail)
          go_wp2_with fail
          go_ret
          exact ⟨rfl, below_drewN H4.out _⟩
        · have h7i : (7 : Int) < (xs.length : Int) := by omega
          have hpi : ¬ ((xs.length : Int) < 1) := by omega
          have hd1 : decide (xs.length < 1) = false := by rw [decide_eq_false_iff_not]; omega
          have hd2 : decide (7 < xs.length) = true := by simp; omega
          go_enter Try.func8, Try.ntmps8
          go_wp2_with fail
          refine (rulerFact_any _).mono ?_
          rintro e w1 ⟨rfl, hb⟩
          have H1 := Lib.hid hb; clear hb
          go_wp2_with fail
          refine (rcheck_ok (HI.out.below H1.out) HM.out).mono ?_
          rw [HG.out]
          rintro e w2 ⟨rfl, hb⟩
          have H2 := Lib.hid (belowTrans H1.out hb); clear hb
          go_wp2_with fail
          go_ret
          exact ⟨rfl, H2.out⟩
      · have hpi : (xs.length : Int) < 1 := by omega
        have hd1 : decide (xs.length < 1) = true := by simp only [decide_eq_true_eq]; omega
        clear hp
        go_enter Try.func8, Try.ntmps8
        go_wp2_with fail
        refine (rulerFact_any _).mono ?_
        rintro e w1 ⟨rfl, hb⟩
        have H1 := Lib.hid hb; clear hb
        go_wp2_with fail
        refine (rcheck_ok (HI.out.below H1.out) HM.out).mono ?_
        rw [HG.out]
        rintro e w2 ⟨rfl, hb⟩
        have H2 := Lib.hid (belowTrans H1.out hb); clear hb
        go_wp2_with fail
        go_ret
        exact ⟨rfl, H2.out⟩
    · have HG : Hid (golB xs = false) := by show _ = _; simpa using hg
      clear hg
      go_enter Try.func8, Try.ntmps8
      go_wp2_with fail
      refine (rulerFact_any _).mono ?_
      rintro e w1 ⟨rfl, hb⟩
      have H1 := Lib.hid hb; clear hb
      go_wp2_with fail
      refine (rcheck_ok (HI.out.below H1.out) HM.out).mono ?_
      rw [HG.out]
      rintro e w2 ⟨rfl, hb⟩
      have H2 := Lib.hid (belowTrans H1.out hb); clear hb
      go_wp2_with fail
      go_ret
      exact ⟨rfl, H2.out⟩
  · have HM := Lib.hid hm
    have em : (marksFault xs != 0) = true := by simpa using hm
    clear hm
    go_enter Try.func8, Try.ntmps8
    go_wp2_with fail
    refine (rulerFact_any _).mono ?_
    rintro e w1 ⟨rfl, hb⟩
    have H1 := Lib.hid hb; clear hb
    go_wp2_with fail
    refine (rcheck_no (HI.out.below H1.out) HM.out).mono ?_
    rintro e w2 ⟨rfl, hb⟩
    have H2 := Lib.hid (belowTrans H1.out hb); clear hb
    go_wp2_with fail
    go_ret
    exact ⟨rfl, H2.out⟩
end Go.Proofs.Ytjmmlcognmceaaa
