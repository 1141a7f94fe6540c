/-
  Contract: the closed fact on designs. No condition.
-/
import Derived.Test.YtkmcmahpfhlkhaaLevel2
namespace Go.Proofs.Ytkmcmahpfhlkhaa
open Go.RowKit

/-- The seven triples. -/
def fanoL : List (List Int) := [[0, 1, 3], [1, 2, 4], [2, 3, 5], [3, 4, 6], [0, 4, 5], [1, 5, 6], [0, 2, 6]]
theorem fano_level : levE 7 fanoL 2 = 0 ∧ levK 7 fanoL 2 = 3 ∧ levL 7 fanoL 2 = 1 := by decide +kernel
theorem intsAt_three (w : World) (a b c : Int) : IntsAt (w.alloc (.cells #[.int .i64 a, .int .i64 b, .int .i64 c] 3)) (.slice (some ⟨w.heap.size, 0, none⟩) 3 3) [a, b, c] := by
  refine ⟨some ⟨w.heap.size, 0, none⟩, 3, rfl, Nat.le_refl _, by omega, (fun h => by cases h), fun i hi => ⟨w.heap.size, 0, rfl, by simp, fun j hj => ?_⟩⟩
  rw [World.cell?_alloc_new, Nat.zero_add]
  simp only [List.length_cons, List.length_nil] at hj
  rcases j with _ | _ | _ | j
  · rfl
  · rfl
  · rfl
  · omega
theorem rowsAt_new {w : World} {t : TypeId} {vs : Array Value} {xss : List (List Int)} (hl : vs.size = xss.length) (hm : xss.length ≤ 9223372036854775807) (h : ∀ i, i < xss.length → IntsAt w (vs.getD i undef) (rx xss i)) :
    RowsAt (w.alloc (.cells vs t)) (.slice (some ⟨w.heap.size, 0, none⟩) xss.length xss.length) xss := by
  refine ⟨some ⟨w.heap.size, 0, none⟩, xss.length, fun i => vs.getD i undef, rfl, Nat.le_refl _, hm, (fun h => by cases h), fun i hi => ⟨(h i hi).below (below_box _ _), w.heap.size, 0, rfl, by simp, fun j hj => ?_⟩⟩
  rw [World.cell?_alloc_new, Nat.zero_add]
  have hj' : j < vs.size := by omega
  show vs[j]? = some (vs.getD j undef)
  simp [hj']

/-- What fano hands back. -/
def FanoPost (w : World) (e : Ending) (w' : World) : Prop := ∃ v, e = .returned (.agg #[.int .i64 7, v]) ∧ RowsAt w' v fanoL ∧ Below w.heap.size w w'
set_option maxRecDepth 100000 in
set_option maxHeartbeats 1000000 in
theorem fano_any (w : World) : Calls Try.prog 42 #[] w (FanoPost w) := by
  obtain ⟨W1, hW1⟩ : ∃ W1, w.alloc (.cells #[.int .i64 7, .slice (some ⟨w.heap.size + 1 + 1 + 1 + 1 + 1 + 1 + 1 + 1, 0, none⟩) 7 7] 24) = W1 := ⟨_, rfl⟩
  obtain ⟨W2, hW2⟩ : ∃ W2, W1.alloc (.cells #[.int .i64 0, .int .i64 1, .int .i64 3] 3) = W2 := ⟨_, rfl⟩
  obtain ⟨W3, hW3⟩ : ∃ W3, W2.alloc (.cells #[.int .i64 1, .int .i64 2, .int .i64 4] 3) = W3 := ⟨_, rfl⟩
  obtain ⟨W4, hW4⟩ : ∃ W4, W3.alloc (.cells #[.int .i64 2, .int .i64 3, .int .i64 5] 3) = W4 := ⟨_, rfl⟩
  obtain ⟨W5, hW5⟩ : ∃ W5, W4.alloc (.cells #[.int .i64 3, .int .i64 4, .int .i64 6] 3) = W5 := ⟨_, rfl⟩
  obtain ⟨W6, hW6⟩ : ∃ W6, W5.alloc (.cells #[.int .i64 0, .int .i64 4, .int .i64 5] 3) = W6 := ⟨_, rfl⟩
  obtain ⟨W7, hW7⟩ : ∃ W7, W6.alloc (.cells #[.int .i64 1, .int .i64 5, .int .i64 6] 3) = W7 := ⟨_, rfl⟩
  obtain ⟨W8, hW8⟩ : ∃ W8, W7.alloc (.cells #[.int .i64 0, .int .i64 2, .int .i64 6] 3) = W8 := ⟨_, rfl⟩
  obtain ⟨W9, hW9⟩ : ∃ W9, W8.alloc (.cells #[.slice (some ⟨w.heap.size + 1, 0, none⟩) 3 3, .slice (some ⟨w.heap.size + 1 + 1, 0, none⟩) 3 3, .slice (some ⟨w.heap.size + 1 + 1 + 1, 0, none⟩) 3 3,
    .slice (some ⟨w.heap.size + 1 + 1 + 1 + 1, 0, none⟩) 3 3, .slice (some ⟨w.heap.size + 1 + 1 + 1 + 1 + 1, 0, none⟩) 3 3, .slice (some ⟨w.heap.size + 1 + 1 + 1 + 1 + 1 + 1, 0, none⟩) 3 3,
    .slice (some ⟨w.heap.size + 1 + 1 + 1 + 1 + 1 + 1 + 1, 0, none⟩) 3 3] 27) = W9 := ⟨_, rfl⟩
  have z1 : W1.heap.size = w.heap.size + 1 := by rw [← hW1]; simp
  have z2 : W2.heap.size = w.heap.size + 1 + 1 := by rw [← hW2, World.size_alloc, z1]
  have z3 : W3.heap.size = w.heap.size + 1 + 1 + 1 := by rw [← hW3, World.size_alloc, z2]
  have z4 : W4.heap.size = w.heap.size + 1 + 1 + 1 + 1 := by rw [← hW4, World.size_alloc, z3]
  have z5 : W5.heap.size = w.heap.size + 1 + 1 + 1 + 1 + 1 := by rw [← hW5, World.size_alloc, z4]
  have z6 : W6.heap.size = w.heap.size + 1 + 1 + 1 + 1 + 1 + 1 := by rw [← hW6, World.size_alloc, z5]
  have z7 : W7.heap.size = w.heap.size + 1 + 1 + 1 + 1 + 1 + 1 + 1 := by rw [← hW7, World.size_alloc, z6]
  have z8 : W8.heap.size = w.heap.size + 1 + 1 + 1 + 1 + 1 + 1 + 1 + 1 := by rw [← hW8, World.size_alloc, z7]
  have i1 := intsAt_three W1 0 1 3
  have i2 := intsAt_three W2 1 2 4
  have i3 := intsAt_three W3 2 3 5
  have i4 := intsAt_three W4 3 4 6
  have i5 := intsAt_three W5 0 4 5
  have i6 := intsAt_three W6 1 5 6
  have i7 := intsAt_three W7 0 2 6
  rw [hW2, z1] at i1; rw [hW3, z2] at i2; rw [hW4, z3] at i3; rw [hW5, z4] at i4; rw [hW6, z5] at i5; rw [hW7, z6] at i6; rw [hW8, z7] at i7
  have b0 : Below w.heap.size w W1 := by rw [← hW1]; exact below_box _ _
  have b1 : Below W1.heap.size W1 W2 := by rw [← hW2]; exact below_box _ _
  have b2 : Below W2.heap.size W2 W3 := by rw [← hW3]; exact below_box _ _
  have b3 : Below W3.heap.size W3 W4 := by rw [← hW4]; exact below_box _ _
  have b4 : Below W4.heap.size W4 W5 := by rw [← hW5]; exact below_box _ _
  have b5 : Below W5.heap.size W5 W6 := by rw [← hW6]; exact below_box _ _
  have b6 : Below W6.heap.size W6 W7 := by rw [← hW7]; exact below_box _ _
  have b7 : Below W7.heap.size W7 W8 := by rw [← hW8]; exact below_box _ _
  have b8 : Below W8.heap.size W8 W9 := by rw [← hW9]; exact below_box _ _
  have c6 := belowTrans b6 b7
  have c5 := belowTrans b5 c6
  have c4 := belowTrans b4 c5
  have c3 := belowTrans b3 c4
  have c2 := belowTrans b2 c3
  have c1 := belowTrans b1 c2
  have c0 := belowTrans b0 c1
  have hR : RowsAt W9 (.slice (some ⟨w.heap.size + 1 + 1 + 1 + 1 + 1 + 1 + 1 + 1, 0, none⟩) 7 7) fanoL := by
    rw [← hW9, ← z8]
    refine rowsAt_new (xss := fanoL) rfl (by decide) fun i hi => ?_
    have hi' : i < 7 := hi
    rcases i with _ | _ | _ | _ | _ | _ | _ | i
    · exact i1.below c2
    · exact i2.below c3
    · exact i3.below c4
    · exact i4.below c5
    · exact i5.below c6
    · exact i6.below b7
    · exact i7
    · omega
  have HR := Lib.hid hR
  have HB := Lib.hid (belowTrans c0 b8)
  have bx : W9.cell? ⟨w.heap.size, 0, none⟩ = some (.int .i64 7) ∧ W9.cell? ⟨w.heap.size, 1, none⟩ = some (.slice (some ⟨w.heap.size + 1 + 1 + 1 + 1 + 1 + 1 + 1 + 1, 0, none⟩) 7 7) := by
    have hh := (belowTrans c1 b8).block w.heap.size (by omega)
    have h0 : W1.heap[w.heap.size]? = some (.cells #[.int .i64 7, .slice (some ⟨w.heap.size + 1 + 1 + 1 + 1 + 1 + 1 + 1 + 1, 0, none⟩) 7 7] 24 (0, 0)) := by rw [← hW1]; exact World.alloc_heap_new w _
    rw [h0] at hh
    constructor <;> simp [World.cell?, hh]
  have HX := Lib.hid bx
  subst hW1 hW2 hW3 hW4 hW5 hW6 hW7 hW8 hW9
  clear z1 z2 z3 z4 z5 z6 z7 z8 i1 i2 i3 i4 i5 i6 i7 b0 b1 b2 b3 b4 b5 b6 b7 b8 c0 c1 c2 c3 c4 c5 c6 hR bx
  go_enter Try.func42, Try.ntmps42
  go_wp2_with fail
  obtain ⟨x0, x1⟩ := HX.out
  refine bodyPost_ret (v := .agg #[.int .i64 7, .slice (some ⟨w.heap.size + 1 + 1 + 1 + 1 + 1 + 1 + 1 + 1, 0, none⟩) 7 7]) ?_ rfl ⟨_, rfl, HR.out, HB.out⟩
  simp [results, Try.results42, go_sem, x0, x1]

set_option maxRecDepth 100000 in
set_option maxHeartbeats 1000000 in
theorem designFact_any (w : World) : Calls Try.prog 19 #[] w fun e w' => e = .returned (.bool true) ∧ Below w.heap.size w w' := by
  go_enter Try.func19, Try.ntmps19
  go_wp2_with fail
  refine (fano_any _).mono ?_
  rintro e w1 ⟨v, rfl, hR, hb⟩
  have HB := Lib.hid hb
  have HL : Hid (Calls Try.prog 17 #[.agg #[.int .i64 7, v], .int .i64 2] (w1.alloc (.cells #[.int .i64 7, v] 24)) (LevPost 3 1 0 (w1.alloc (.cells #[.int .i64 7, v] 24)))) := by
    have h := level_any 7 2 v fanoL _ (hR.below (below_box w1 (.cells #[.int .i64 7, v] 24)))
    rw [fano_level.1, fano_level.2.1, fano_level.2.2] at h
    exact h
  obtain ⟨a, c, V, rfl, _⟩ := hR
  clear hb
  go_wp2_with fail
  refine (HL.out).mono ?_
  rintro e w2 ⟨rfl, hb⟩
  have HB2 := Lib.hid ((belowTrans HB.out (below_box _ _)).trans (hb.mono (by have := HB.out.size; simp; omega)))
  clear hb HL
  go_wp2_with fail
  go_ret
  exact ⟨rfl, HB2.out⟩
end Go.Proofs.Ytkmcmahpfhlkhaa
