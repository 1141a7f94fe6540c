/-
  The row of DifferMakes: whatever the input, it returns true, and each argument reads as it did. No condition.
-/
import Derived.Test.YtdbfpdhcaiiiaaaDoorPDifferMakes19
import Derived.Test.YtdbfpdhcaiiiaaaDoorPDifferMakes20
import Derived.JoinedOf
import Derived.JoinedAt
import Derived.Test.YtdbfpdhcaiiiaaaDoorCards
import Derived.Test.YtdbfpdhcaiiiaaaDoorTie
import Derived.SevenTiedAt
namespace Go.Proofs.YtdbfpdhcaiiiaaaDoor.differMakes
open Go.ChangeShapes Go.WideShapes Go.ChangeAt Go.RowKit Go.Joins
theorem own : ownKnob Tryd.prog.godebug = none := by kernel_rfl
theorem laidOut : laidOutB Tryd.prog = true := by kernel_rfl
set_option maxRecDepth 100000 in
theorem lifted (os : Os) (started : os.Started) (H : Type) (enc : TypeId × Value → H) :
    ReturnsInHanded {} Tryd.checked os 6 .any (fun w args => (Rows.differMakesSpec.pre enc Tryd.prog Tryd.f6 [] false w args ∧ laidMetH Tryd.prog primesLaid w) ∧ sizedMet enc Tryd.prog Tryd.f6 (OpenSpec.ofChange Rows.differMakesSpec) false w args) (Rows.differMakesSpec.post enc Tryd.prog Tryd.f6 false true false false) := by
  refine returnsInHanded_of_change_and (C := Tryd.checked) (X := fun w _ => laidMetH Tryd.prog primesLaid w) (fun _ _ _ hh h => h.of_heap hh) own started (by kernel_rfl) Tryd.func6
    (ChangeSpec.witness_shaped (enc := enc) (C := Tryd.checked) (os := os) (X := fun w _ => laidMetH Tryd.prog primesLaid w) false (World.doorLaid Tryd.prog 400 os) #[.int .i64 0, .slice none 0 0, .int .i64 0, .agg #[.int .i64 0, .int .i64 0, .slice none 0 0]] 8 rfl (World.shaped_of_RefB (by kernel_rfl) (by kernel_rfl)) (by kernel_rfl) (by kernel_rfl) (by kernel_rfl) (primes_met os _)) ?_
  intro W base args ds gs before hval0 hW _ _ hlaid _
  have hlaid2 := primes_of_laid hlaid
  have hval : ∀ (j : Nat) t v, Tryd.f6.params[j]? = some t → args[j]? = some v → Value.okWide Tryd.prog W .any base t v := hval0
  have hW' := hW
  obtain ⟨p, q, hA0, hV, rfl, hfz, hnd⟩ := hW
  have hA : DataW.TrodAll enc Tryd.prog W 0 (fun _ => true) true Tryd.f6.params.toList args.toList ds p := hA0
  rw [Tryd.params6] at hA hval
  obtain ⟨v0, vs0, d0, ds0, p0, q0, hargs, rfl, rfl, h0, r0⟩ := trodAll_cons hA
  obtain ⟨v1, vs1, d1, ds1, p1, q1, rfl, rfl, rfl, h1, r1⟩ := trodAll_cons r0
  obtain ⟨v2, vs2, d2, ds2, p2, q2, rfl, rfl, rfl, h2, r2⟩ := trodAll_cons r1
  obtain ⟨v3, vs3, d3, ds3, p3, q3, rfl, rfl, rfl, h3, r3⟩ := trodAll_cons r2
  obtain ⟨rfl, rfl, rfl⟩ := trodAll_nil r3
  obtain rfl : args = #[v0, v1, v2, v3] := by cases args; simp_all
  obtain ⟨rfl, rfl⟩ := trodVars_none hV
  obtain ⟨a0, rfl, rfl, rfl, w0⟩ := open_int Tryd.underlying3 (hval 0 3 v0 rfl rfl) h0
  have k1 := h1
  have lt1 : ∀ x ∈ p1, x.block < W.heap.size := by obtain ⟨m, hm⟩ := k1; exact DataW.trod_lt m _ _ _ hm
  obtain ⟨z1, i1, f1⟩ : ∃ xs, IntsAt W v1 xs ∧ Fits xs := by
    obtain ⟨x1, x2, x3, x4⟩ := okWide_slice Tryd.underlying22 (hval 1 22 v1 rfl rfl)
    obtain ⟨fuel, hf⟩ := k1
    subst x4; simp only [Value.cells] at hf
    exact intsAt_of_trod Tryd.underlying22 Tryd.underlying3 (by kernel_rfl) ⟨_, _, _, rfl⟩ hf
  obtain ⟨a2, rfl, rfl, rfl, w2⟩ := open_int Tryd.underlying3 (hval 2 3 v2 rfl rfl) h2
  have k3 := h3
  have lt3 : ∀ x ∈ p3, x.block < W.heap.size := by obtain ⟨m, hm⟩ := k3; exact DataW.trod_lt m _ _ _ hm
  obtain ⟨c30, c31, c32, y30, y31, y32, m3, rfl, rfl, rfl, hy30, hy31, hy32⟩ := open_agg3 Tryd.underlying24 (by kernel_rfl) (by kernel_rfl) (hval 3 24 v3 rfl rfl) h3
  obtain ⟨a3, e3, _, w3⟩ := DataW.trod_int Tryd.underlying3 hy30
  obtain rfl : c30 = .int .i64 a3 := by simpa using e3
  obtain ⟨b3, g3, _, x3⟩ := DataW.trod_int Tryd.underlying3 hy31
  obtain rfl : c31 = .int .i64 b3 := by simpa using g3
  obtain ⟨z3, i3, f3⟩ := intsAt_of_trod Tryd.underlying22 Tryd.underlying3 (by kernel_rfl) (slice_of_trod Tryd.underlying22 hy32) hy32
  clear hA0 hval0
  refine (differMakes_walk a0 v1 z1 a2 a3 b3 c32 z3 W (bounds_i64 w0) i1 f1 (bounds_i64 w2) (bounds_i64 w3) (bounds_i64 x3) i3 f3 hlaid2).mono fun e W' ⟨he, bel⟩ => ?_
  subst he
  exact ⟨_, rfl, _, _, _, [], _, [], hW', trodAll_mk1 (shut_bool Tryd.underlying4 _), (trodAll_cons_mk (shut_int Tryd.underlying3 w0) (trodAll_cons_mk (Below.trod laidOut (by kernel_rfl) (of_decide_eq_true (by kernel_rfl)) k1 bel lt1) (trodAll_cons_mk (shut_int Tryd.underlying3 w2) (trodAll_cons_mk (Below.trod laidOut (by kernel_rfl) (of_decide_eq_true (by kernel_rfl)) k3 bel lt3) trodAll_mk0)))), rfl, bel.frame _, fun h => by cases h⟩
theorem over : Rows.differMakesRow.holds Tryd.pinned (OpenSpec.ofChange Rows.differMakesSpec) :=
  OpenClaim.holds_of_wide 6 Tryd.f6 rfl rfl rfl rfl rfl rfl rfl ⟨rfl, rfl, rfl, rfl, rfl⟩ rfl rfl rfl rfl rfl (by kernel_rfl) Tryd.func6 (by kernel_rfl)
    (of_decide_eq_true (by kernel_rfl)) (by unfold Func.isWrapper; first | (rw [if_pos (by decide +kernel)]; kernel_rfl) | (rw [if_neg (by decide +kernel)]; exact ⟨rfl, rfl⟩))
    (fun os started H enc _ => lifted os started H enc)
/-- THE STATEMENT: the card, tied to the program's text. -/
theorem proved : Rows.DifferMakesCardSaid :=
  Claim7.holds_tied_plain_at .later [] [.data] true (true, "2a710f90e2b98b70dba9a6795695e07e2b65b0e41bcbadc038b688c5fedc0aba") false
    over (fun _ h => by cases h) (by kernel_rfl) (fun _ h => by cases h) differMakes_row_tie rfl ⟨rfl, rfl⟩ (by kernel_rfl) rfl
    (fun f fn hf hfn => by
      obtain rfl : f = 6 := Option.some.inj ((show Tryd.prog.funcNamed "parterre/parterrelaw2.DifferMakes" = some 6 by kernel_rfl).symm.trans hf) |>.symm
      obtain rfl : fn = Tryd.f6 := (Option.some.inj (Tryd.func6.symm.trans hfn)).symm
      exact ⟨by kernel_rfl, fun j t ht => by
        rw [Tryd.params6] at ht
        have hm : t ∈ [3, 22, 3, 24] := by have := Array.mem_of_getElem? ht; simpa using this
        have hall : ([3, 22, 3, 24].all fun u => !Tryd.prog.wantsStandIn u) = true := by kernel_rfl
        exact (show Tryd.prog.wantsStandIn t = false by simpa using List.all_eq_true.1 hall t hm)⟩)
    (by kernel_rfl)
#print axioms proved
end Go.Proofs.YtdbfpdhcaiiiaaaDoor.differMakes
