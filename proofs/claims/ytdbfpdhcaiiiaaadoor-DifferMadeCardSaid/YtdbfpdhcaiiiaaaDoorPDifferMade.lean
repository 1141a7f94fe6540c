/-
  The row of DifferMade: whatever the input, it returns true, and each argument reads as it did. No condition.
-/
import Derived.Test.YtdbfpdhcaiiiaaaDoorPDifferMade44
import Derived.Test.YtdbfpdhcaiiiaaaDoorPDifferMade45
import Derived.JoinedOf
import Derived.JoinedAt
import Derived.Test.YtdbfpdhcaiiiaaaDoorPDifferMade43
import Derived.Test.YtdbfpdhcaiiiaaaDoorCards
import Derived.Test.YtdbfpdhcaiiiaaaDoorTie
import Derived.SevenTiedAt
namespace Go.Proofs.YtdbfpdhcaiiiaaaDoor.differMade
open Go.ChangeShapes Go.WideShapes Go.ChangeAt Go.RowKit Go.Joins
theorem own : ownKnob Tryd.prog.godebug = none := by kernel_rfl
theorem laidOut : laidOutB Tryd.prog = true := by kernel_rfl
set_option maxRecDepth 100000 in
theorem lifted (os : Os) (started : os.Started) (H : Type) (enc : TypeId × Value → H) :
    ReturnsInHanded {} Tryd.checked os 5 .any (fun w args => (Rows.differMadeSpec.pre enc Tryd.prog Tryd.f5 [] false w args ∧ laidMetH Tryd.prog primesLaid w) ∧ sizedMet enc Tryd.prog Tryd.f5 (OpenSpec.ofChange Rows.differMadeSpec) false w args) (Rows.differMadeSpec.post enc Tryd.prog Tryd.f5 false true false false) := by
  refine returnsInHanded_of_change_and (C := Tryd.checked) (X := fun w _ => laidMetH Tryd.prog primesLaid w) (fun _ _ _ hh h => h.of_heap hh) own started (by kernel_rfl) Tryd.func5
    (ChangeSpec.witness_shaped (enc := enc) (C := Tryd.checked) (os := os) (X := fun w _ => laidMetH Tryd.prog primesLaid w) false (World.doorLaid Tryd.prog 400 os) #[.int .i64 0, .agg #[.int .i64 0, .int .i64 0, .slice none 0 0]] 8 rfl (World.shaped_of_RefB (by kernel_rfl) (by kernel_rfl)) (by kernel_rfl) (by kernel_rfl) (by kernel_rfl) (primes_met os _)) ?_
  intro W base args ds gs before hval0 hW _ _ hlaid _
  have hlaid2 := primes_of_laid hlaid
  have hval : ∀ (j : Nat) t v, Tryd.f5.params[j]? = some t → args[j]? = some v → Value.okWide Tryd.prog W .any base t v := hval0
  have hW' := hW
  obtain ⟨p, q, hA0, hV, rfl, hfz, hnd⟩ := hW
  have hA : DataW.TrodAll enc Tryd.prog W 0 (fun _ => true) true Tryd.f5.params.toList args.toList ds p := hA0
  rw [Tryd.params5] at hA hval
  obtain ⟨v0, vs0, d0, ds0, p0, q0, hargs, rfl, rfl, h0, r0⟩ := trodAll_cons hA
  obtain ⟨v1, vs1, d1, ds1, p1, q1, rfl, rfl, rfl, h1, r1⟩ := trodAll_cons r0
  obtain ⟨rfl, rfl, rfl⟩ := trodAll_nil r1
  obtain rfl : args = #[v0, v1] := by cases args; simp_all
  obtain ⟨rfl, rfl⟩ := trodVars_none hV
  obtain ⟨a0, rfl, rfl, rfl, w0⟩ := open_int Tryd.underlying3 (hval 0 3 v0 rfl rfl) h0
  have k1 := h1
  have lt1 : ∀ x ∈ p1, x.block < W.heap.size := by obtain ⟨m, hm⟩ := k1; exact DataW.trod_lt m _ _ _ hm
  obtain ⟨c10, c11, c12, y10, y11, y12, m1, rfl, rfl, rfl, hy10, hy11, hy12⟩ := open_agg3 Tryd.underlying24 (by kernel_rfl) (by kernel_rfl) (hval 1 24 v1 rfl rfl) h1
  obtain ⟨a1, e1, _, w1⟩ := DataW.trod_int Tryd.underlying3 hy10
  obtain rfl : c10 = .int .i64 a1 := by simpa using e1
  obtain ⟨b1, g1, _, x1⟩ := DataW.trod_int Tryd.underlying3 hy11
  obtain rfl : c11 = .int .i64 b1 := by simpa using g1
  obtain ⟨z1, i1, f1⟩ := intsAt_of_trod Tryd.underlying22 Tryd.underlying3 (by kernel_rfl) (slice_of_trod Tryd.underlying22 hy12) hy12
  clear hA0 hval0
  refine (differMade_walk a0 a1 b1 c12 z1 W (bounds_i64 w0) (bounds_i64 w1) (bounds_i64 x1) i1 f1 hlaid2).mono fun e W' ⟨he, bel⟩ => ?_
  subst he
  exact ⟨_, rfl, _, _, _, [], _, [], hW', trodAll_mk1 (shut_bool Tryd.underlying4 _), (trodAll_cons_mk (shut_int Tryd.underlying3 w0) (trodAll_cons_mk (Below.trod laidOut (by kernel_rfl) (of_decide_eq_true (by kernel_rfl)) k1 bel lt1) trodAll_mk0)), rfl, bel.frame _, fun h => by cases h⟩
theorem over : Rows.differMadeRow.holds Tryd.pinned (OpenSpec.ofChange Rows.differMadeSpec) :=
  OpenClaim.holds_of_wide 5 Tryd.f5 rfl rfl rfl rfl rfl rfl rfl ⟨rfl, rfl, rfl, rfl, rfl⟩ rfl rfl rfl rfl rfl (by kernel_rfl) Tryd.func5 (by kernel_rfl)
    (of_decide_eq_true (by kernel_rfl)) (by unfold Func.isWrapper; first | (rw [if_pos (by decide +kernel)]; kernel_rfl) | (rw [if_neg (by decide +kernel)]; exact ⟨rfl, rfl⟩))
    (fun os started H enc _ => lifted os started H enc)
/-- THE STATEMENT: the card, tied to the program's text. -/
theorem proved : Rows.DifferMadeCardSaid :=
  Claim7.holds_tied_plain_at .later [] [.data] true (true, "2a710f90e2b98b70dba9a6795695e07e2b65b0e41bcbadc038b688c5fedc0aba") false
    over (fun _ h => by cases h) (by kernel_rfl) (fun _ h => by cases h) differMade_row_tie rfl ⟨rfl, rfl⟩ (by kernel_rfl) rfl
    (fun f fn hf hfn => by
      obtain rfl : f = 5 := Option.some.inj ((show Tryd.prog.funcNamed "parterre/parterrelaw2.DifferMade" = some 5 by kernel_rfl).symm.trans hf) |>.symm
      obtain rfl : fn = Tryd.f5 := (Option.some.inj (Tryd.func5.symm.trans hfn)).symm
      exact ⟨by kernel_rfl, fun j t ht => by
        rw [Tryd.params5] at ht
        have hm : t ∈ [3, 24] := by have := Array.mem_of_getElem? ht; simpa using this
        have hall : ([3, 24].all fun u => !Tryd.prog.wantsStandIn u) = true := by kernel_rfl
        exact (show Tryd.prog.wantsStandIn t = false by simpa using List.all_eq_true.1 hall t hm)⟩)
    (by kernel_rfl)
#print axioms proved
end Go.Proofs.YtdbfpdhcaiiiaaaDoor.differMade
