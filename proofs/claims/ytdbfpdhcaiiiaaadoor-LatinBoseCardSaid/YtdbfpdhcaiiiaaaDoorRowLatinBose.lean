/-
  The row of LatinBose: whatever the input, it returns true, and each argument reads as it did. No condition.
-/
import Derived.Test.YtdbfpdhcaiiiaaaDoorLatinBose
import Derived.Test.YtdbfpdhcaiiiaaaDoorOpen
import Derived.JoinedOf
import Derived.JoinedAt
import Derived.Test.YtdbfpdhcaiiiaaaDoorPrimesLaid
import Derived.Test.YtdbfpdhcaiiiaaaDoorCards
import Derived.Test.YtdbfpdhcaiiiaaaDoorTie
import Derived.SevenTiedAt
namespace Go.Proofs.YtdbfpdhcaiiiaaaDoor.latinBose
open Go.ChangeShapes Go.WideShapes Go.ChangeAt Go.RowKit Go.Joins
theorem own : ownKnob Tryd.prog.godebug = none := by kernel_rfl
theorem laidOut : laidOutB Tryd.prog = true := by kernel_rfl
set_option maxRecDepth 100000 in
theorem lifted (os : Os) (started : os.Started) (H : Type) (enc : TypeId × Value → H) :
    ReturnsInHanded {} Tryd.checked os 4 .any (fun w args => (Rows.latinBoseSpec.pre enc Tryd.prog Tryd.f4 [] false w args ∧ laidMetH Tryd.prog primesLaid w) ∧ sizedMet enc Tryd.prog Tryd.f4 (OpenSpec.ofChange Rows.latinBoseSpec) false w args) (Rows.latinBoseSpec.post enc Tryd.prog Tryd.f4 false true false false) := by
  refine returnsInHanded_of_change_and (C := Tryd.checked) (X := fun w _ => laidMetH Tryd.prog primesLaid w) (fun _ _ _ hh h => h.of_heap hh) own started (by kernel_rfl) Tryd.func4
    (ChangeSpec.witness_shaped (enc := enc) (C := Tryd.checked) (os := os) (X := fun w _ => laidMetH Tryd.prog primesLaid w) false (World.doorLaid Tryd.prog 400 os) #[.agg #[.int .i64 0, .int .i64 0, .slice none 0 0], .int .i64 0, .int .i64 0] 8 rfl (World.shaped_of_RefB (by kernel_rfl) (by kernel_rfl)) (by kernel_rfl) (by kernel_rfl) (by kernel_rfl) (primes_met os _)) ?_
  intro W base args ds gs before hval0 hW _ _ hlaid _
  have hlaid2 := primes_of_laid hlaid
  have hval : ∀ (j : Nat) t v, Tryd.f4.params[j]? = some t → args[j]? = some v → Value.okWide Tryd.prog W .any base t v := hval0
  have hW' := hW
  obtain ⟨p, q, hA0, hV, rfl, hfz, hnd⟩ := hW
  have hA : DataW.TrodAll enc Tryd.prog W 0 (fun _ => true) true Tryd.f4.params.toList args.toList ds p := hA0
  rw [Tryd.params4] at hA hval
  obtain ⟨v0, vs0, d0, ds0, p0, q0, hargs, rfl, rfl, h0, r0⟩ := trodAll_cons hA
  obtain ⟨v1, vs1, d1, ds1, p1, q1, rfl, rfl, rfl, h1, r1⟩ := trodAll_cons r0
  obtain ⟨v2, vs2, d2, ds2, p2, q2, rfl, rfl, rfl, h2, r2⟩ := trodAll_cons r1
  obtain ⟨rfl, rfl, rfl⟩ := trodAll_nil r2
  obtain rfl : args = #[v0, v1, v2] := by cases args; simp_all
  obtain ⟨rfl, rfl⟩ := trodVars_none hV
  have k0 := h0
  have lt0 : ∀ x ∈ p0, x.block < W.heap.size := by obtain ⟨m, hm⟩ := k0; exact DataW.trod_lt m _ _ _ hm
  obtain ⟨c00, c01, c02, y00, y01, y02, m0, rfl, rfl, rfl, hy00, hy01, hy02⟩ := open_agg3 Tryd.underlying24 (by kernel_rfl) (by kernel_rfl) (hval 0 24 v0 rfl rfl) h0
  obtain ⟨a0, e0, _, w0⟩ := DataW.trod_int Tryd.underlying3 hy00
  obtain rfl : c00 = .int .i64 a0 := by simpa using e0
  obtain ⟨b0, g0, _, x0⟩ := DataW.trod_int Tryd.underlying3 hy01
  obtain rfl : c01 = .int .i64 b0 := by simpa using g0
  obtain ⟨z0, i0, f0⟩ := intsAt_of_trod Tryd.underlying22 Tryd.underlying3 (by kernel_rfl) (slice_of_trod Tryd.underlying22 hy02) hy02
  obtain ⟨a1, rfl, rfl, rfl, w1⟩ := open_int Tryd.underlying3 (hval 1 3 v1 rfl rfl) h1
  obtain ⟨a2, rfl, rfl, rfl, w2⟩ := open_int Tryd.underlying3 (hval 2 3 v2 rfl rfl) h2
  clear hA0 hval0
  refine (latinBose_walk a0 b0 c02 z0 a1 a2 W (bounds_i64 w0) (bounds_i64 x0) i0 f0 (bounds_i64 w1) (bounds_i64 w2) hlaid2).mono fun e W' ⟨he, bel⟩ => ?_
  subst he
  exact ⟨_, rfl, _, _, _, [], _, [], hW', trodAll_mk1 (shut_bool Tryd.underlying4 _), (trodAll_cons_mk (Below.trod laidOut (by kernel_rfl) (of_decide_eq_true (by kernel_rfl)) k0 bel lt0) (trodAll_cons_mk (shut_int Tryd.underlying3 w1) (trodAll_cons_mk (shut_int Tryd.underlying3 w2) trodAll_mk0))), rfl, bel.frame _, fun h => by cases h⟩
theorem over : Rows.latinBoseRow.holds Tryd.pinned (OpenSpec.ofChange Rows.latinBoseSpec) :=
  OpenClaim.holds_of_wide 4 Tryd.f4 rfl rfl rfl rfl rfl rfl rfl ⟨rfl, rfl, rfl, rfl, rfl⟩ rfl rfl rfl rfl rfl (by kernel_rfl) Tryd.func4 (by kernel_rfl)
    (of_decide_eq_true (by kernel_rfl)) (by unfold Func.isWrapper; first | (rw [if_pos (by decide +kernel)]; kernel_rfl) | (rw [if_neg (by decide +kernel)]; exact ⟨rfl, rfl⟩))
    (fun os started H enc _ => lifted os started H enc)
/-- THE STATEMENT: the card, tied to the program's text. -/
theorem proved : Rows.LatinBoseCardSaid :=
  Claim7.holds_tied_plain_at .later [] [.data] true (true, "2a710f90e2b98b70dba9a6795695e07e2b65b0e41bcbadc038b688c5fedc0aba") false
    over (fun _ h => by cases h) (by kernel_rfl) (fun _ h => by cases h) latinBose_row_tie rfl ⟨rfl, rfl⟩ (by kernel_rfl) rfl
    (fun f fn hf hfn => by
      obtain rfl : f = 4 := Option.some.inj ((show Tryd.prog.funcNamed "parterre/parterrelaw2.LatinBose" = some 4 by kernel_rfl).symm.trans hf) |>.symm
      obtain rfl : fn = Tryd.f4 := (Option.some.inj (Tryd.func4.symm.trans hfn)).symm
      exact ⟨by kernel_rfl, fun j t ht => by
        rw [Tryd.params4] at ht
        have hm : t ∈ [24, 3, 3] := by have := Array.mem_of_getElem? ht; simpa using this
        have hall : ([24, 3, 3].all fun u => !Tryd.prog.wantsStandIn u) = true := by kernel_rfl
        exact (show Tryd.prog.wantsStandIn t = false by simpa using List.all_eq_true.1 hall t hm)⟩)
    (by kernel_rfl)
#print axioms proved
end Go.Proofs.YtdbfpdhcaiiiaaaDoor.latinBose
