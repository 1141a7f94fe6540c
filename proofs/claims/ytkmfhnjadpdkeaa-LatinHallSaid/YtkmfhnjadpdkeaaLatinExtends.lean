/-
  The walk of LatinExtends: it returns true, and what there was is as it was. No condition.
-/
import Derived.Test.YtkmfhnjadpdkeaaExtOf
import Derived.Test.YtkmfhnjadpdkeaaExtRef
import Derived.Test.YtkmfhnjadpdkeaaSquares
namespace Go.Proofs.Ytkmfhnjadpdkeaa
open Go.RowKit

/-- What is known where there is no fault. -/
structure ExtOk (n : Nat) (xss : List (List Int)) (ys : List Int) : Prop where
  one : 1 ≤ n
  eight : n ≤ 8
  few : xss.length ≤ n
  rows : rowsF n xss xss.length = 0
  go : goOn n ((n - xss.length) * n) (flat xss xss.length) = some ys
  rect : Rect n n ys
theorem extend_no {n : Int} {v : Value} {xss : List (List Int)} {w : World} (h : RowsAt w v xss) (hf : extFault n xss ≠ 0) :
    Calls Try.prog 26 #[.int .i64 n, v] w (ExtNo (extFault n xss) w) := by
  by_cases s1 : n < 1 ∨ 8 < n
  · have : extFault n xss = 1 := by unfold extFault; rw [if_pos s1]
    rw [this]; exact extend_side n v w s1
  · obtain ⟨n, rfl⟩ := Int.eq_ofNat_of_zero_le (show 0 ≤ n by omega)
    by_cases s2 : n < xss.length
    · have : extFault n xss = 3 := by unfold extFault; rw [if_neg s1, if_pos (by omega)]
      rw [this]; exact extend_full n v xss w h (by omega) (by omega) s2
    · have he := extFault_rows (n := n) (xss := xss) (by omega) (by omega) (by omega)
      refine (extend_any n v xss w h (by omega) (by omega) (by omega)).mono ?_
      intro e w' hp
      unfold ExtPost at hp
      by_cases h0 : rowsF n xss xss.length = 0
      · rw [if_pos h0] at hp he
        cases eo : onceB n (flat xss xss.length)
        · rw [eo] at hp he
          rw [he]; exact hp
        · rw [eo] at he; exact absurd he hf
      · rw [if_neg h0] at hp he
        rw [he]; exact hp
theorem extend_ok {n : Int} {xss : List (List Int)} (hf : extFault n xss = 0) : ∃ (k : Nat) (ys : List Int), n = k ∧ ExtOk k xss ys := by
  by_cases s1 : n < 1 ∨ 8 < n
  · unfold extFault at hf; rw [if_pos s1] at hf; cases hf
  · obtain ⟨n, rfl⟩ := Int.eq_ofNat_of_zero_le (show 0 ≤ n by omega)
    by_cases s2 : n < xss.length
    · unfold extFault at hf; rw [if_neg s1, if_pos (by omega)] at hf; cases hf
    · rw [extFault_rows (by omega) (by omega) (by omega)] at hf
      by_cases h0 : rowsF n xss xss.length = 0
      · rw [if_pos h0] at hf
        cases eo : onceB n (flat xss xss.length)
        · rw [eo] at hf; cases hf
        · have hR := ext_rect h0 eo
          have hw := Rect.whole (n - xss.length) hR (by omega)
          cases e2 : goOn n ((n - xss.length) * n) (flat xss xss.length) with
          | none => rw [e2] at hw; cases hw
          | some ys =>
            obtain ⟨zs, q1, q2, q3, q4⟩ := goOn_spec e2 eo
            refine ⟨n, ys, rfl, by omega, by omega, by omega, h0, e2, ?_, fun x hx => ?_, q4⟩
            · rw [q1, List.length_append, q2, hR.len, ← Nat.add_mul]; congr 1; omega
            · rw [q1] at hx
              rcases List.mem_append.1 hx with hx | hx
              · exact hR.rng x hx
              · exact q3 x hx
      · rw [if_neg h0] at hf; exact absurd hf h0
theorem extend_yes {n : Nat} {v : Value} {xss : List (List Int)} {ys : List Int} {w : World} (h : RowsAt w v xss) (hk : ExtOk n xss ys) :
    Calls Try.prog 26 #[.int .i64 n, v] w (ExtYes n ys w) := by
  refine (extend_any n v xss w h hk.one hk.eight hk.few).mono ?_
  intro e w' hp
  unfold ExtPost at hp
  rw [if_pos hk.rows] at hp
  have ho : onceB n (flat xss xss.length) = true := by
    obtain ⟨zs, q1⟩ : ∃ zs, ys = flat xss xss.length ++ zs := by
      have := hk.go
      -- the way on only adds
      have key : ∀ (l : Nat) (xs ys : List Int), goOn n l xs = some ys → ∃ zs, ys = xs ++ zs := by
        intro l
        induction l with
        | zero => intro xs ys h; exact ⟨[], by simpa [goOn] using h.symm⟩
        | succ l ih =>
          intro xs ys h
          rw [goOn_succ] at h
          obtain ⟨c, _, hf⟩ := fsome_some h
          unfold goF at hf
          cases e : fitB n xs c
          · rw [e] at hf; cases hf
          · rw [e] at hf
            obtain ⟨zs, hz⟩ := ih _ _ hf
            exact ⟨[(c : Int)] ++ zs, by rw [hz, List.append_assoc]⟩
      exact key _ _ _ this
    have := hk.rect.one
    rw [q1] at this
    exact onceB_append this
  rw [ho] at hp
  obtain ⟨zs, h1, h2, h3⟩ := hp
  rw [hk.go] at h1
  injection h1 with h1
  subst h1
  exact h3

set_option maxRecDepth 100000 in
set_option maxHeartbeats 1000000 in
theorem latinExtends_walk (n : Int) (v : Value) (xss : List (List Int)) (w : World)
    (_ : -9223372036854775808 ≤ n ∧ n ≤ 9223372036854775807) (h : RowsAt w v xss) (_ : ∀ xs ∈ xss, Fits xs) :
    Calls Try.prog 7 #[.int .i64 n, v] w fun e w' => e = .returned (.bool true) ∧ Below w.heap.size w w' := by
  have HR := Lib.hid h
  obtain ⟨a, c, V, hv, _⟩ := h
  subst hv
  by_cases hf : extFault n xss = 0
  · obtain ⟨n, ys, rfl, hk⟩ := extend_ok hf
    have HK := Lib.hid hk
    have HF := Lib.hid hf
    clear hk hf
    go_enter Try.func7, Try.ntmps7
    go_wp2_with fail
    refine (extFault_any n _ xss _ HR.out).mono ?_
    rw [HF.out]
    rintro e w1 ⟨rfl, hb⟩
    have H1 := Lib.hid hb; clear hb
    go_wp2_with fail
    refine (extend_yes (HR.out.below H1.out) HK.out).mono ?_
    intro e w2 hp
    obtain ⟨v2, rfl, hI, hb⟩ := hp
    obtain ⟨va, vc, rfl, _⟩ := id hI
    have HI := Lib.hid hI
    have H2 := Lib.hid (belowTrans (belowTrans H1.out hb) (below_box _ (.cells #[.int .i64 n, .slice va ys.length vc] 24))); clear hb hI
    go_wp2_with fail
    refine (extOf_any n _ xss _ (HR.out.below H2.out) HK.out.one HK.out.eight HK.out.few HK.out.rows ys HK.out.go HK.out.rect.len).mono ?_
    rintro e w3 ⟨v3, rfl, hI, hb⟩
    obtain ⟨ua, uc, rfl, _⟩ := id hI
    have HB3 := Lib.hid (hb.trans ((below_box _ (.cells #[.int .i64 n, .slice ua ys.length uc] 24)).mono hb.size))
    have HI2 := Lib.hid ((HI.out.below (below_box _ (.cells #[.int .i64 n, .slice va ys.length vc] 24))).below HB3.out)
    have HI3 := Lib.hid (hI.below (below_box _ (.cells #[.int .i64 n, .slice ua ys.length uc] 24)))
    have H3 := Lib.hid (belowTrans H2.out HB3.out)
    obtain ⟨z1, z2, z3⟩ := box1 hb
    clear hb hI
    go_wp2_with fail
    refine (squares_any n n _ _ ys ys _ HI2.out HI3.out).mono ?_
    rw [eqI_refl]
    rintro e w4 ⟨rfl, hb⟩
    have H4 := Lib.hid (belowTrans H3.out hb); clear hb
    go_wp2_with fail
    go_ret
    exact ⟨ret_bool (by simp), H4.out⟩
  · have HF := Lib.hid hf
    have e2 : (extFault n xss != 0) = true := by simpa using hf
    clear hf
    go_enter Try.func7, Try.ntmps7
    go_wp2_with fail
    refine (extFault_any n _ xss _ HR.out).mono ?_
    rintro e w1 ⟨rfl, hb⟩
    have H1 := Lib.hid hb; clear hb
    go_wp2_with fail
    refine (extend_no (HR.out.below H1.out) HF.out).mono ?_
    intro e w2 hp
    obtain ⟨rfl, hb⟩ := hp
    have H2 := Lib.hid (belowTrans (belowTrans H1.out hb) (below_box _ (.cells #[.int .i64 0, .slice none 0 0] 24))); clear hb
    go_wp2_with fail
    refine (squares_any 0 0 _ _ [] [] _ (intsAt_nil _) (intsAt_nil _)).mono ?_
    rw [eqI_refl]
    rintro e w3 ⟨rfl, hb⟩
    have H3 := Lib.hid (belowTrans H2.out hb); clear hb
    go_wp2_with fail
    go_ret
    exact ⟨ret_bool (by simp), H3.out⟩
end Go.Proofs.Ytkmfhnjadpdkeaa
