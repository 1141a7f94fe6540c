/-
  Contract: design.Parallel. No condition.
-/
import Derived.Test.YtkmcmahpfhlkhaaPart
import Derived.Test.YtkmcmahpfhlkhaaDSets
namespace Go.Proofs.Ytkmcmahpfhlkhaa
open Go.RowKit Go.Maps

set_option maxRecDepth 100000 in
set_option maxHeartbeats 1000000 in
theorem parallel_bad (n : Int) (v : Value) (xss : List (List Int)) (w : World) (h : RowsAt w v xss) (hf : desFault n xss ≠ 0) :
    Calls Try.prog 13 #[.agg #[.int .i64 n, v]] w fun e w' => e = .returned (.tuple #[.slice none 0 0, .int .i64 (desFault n xss)]) ∧ Below w.heap.size w w' := by
  have HC := Lib.hid (check_any n v xss _ (h.below (below_box w (.cells #[.int .i64 n, v] 24))))
  have HBx := Lib.hid (below_box w (.cells #[.int .i64 n, v] 24))
  have HA0 := Lib.hid (pair_new w (.int .i64 n) v 24 _ rfl)
  have hne : (desFault n xss != 0) = true := by simpa using hf
  obtain ⟨a, c, V, rfl, h1, h2, _, h3⟩ := h
  clear h3 hf
  generalize desFault n xss = e0 at *
  go_enter Try.func13, Try.ntmps13
  go_wp2_with fail
  refine (HC.out).mono ?_
  rintro e w1 ⟨rfl, hb⟩
  have HB1 := Lib.hid (belowTrans HBx.out hb)
  clear hb
  go_wp2_with fail
  go_ret2
  exact ⟨rfl, HB1.out⟩

set_option maxRecDepth 100000 in
set_option maxHeartbeats 1000000 in
theorem parallel_big (n : Nat) (v : Value) (xss : List (List Int)) (w : World) (h : RowsAt w v xss) (hD : IsDes n xss) (hn : 15 < n) :
    Calls Try.prog 13 #[.agg #[.int .i64 n, v]] w fun e w' => e = .returned (.tuple #[.slice none 0 0, .int .i64 3]) ∧ Below w.heap.size w w' := by
  have HC := Lib.hid (check_any n v xss _ (h.below (below_box w (.cells #[.int .i64 (n : Int), v] 24))))
  rw [hD.fault] at HC
  have HBx := Lib.hid (below_box w (.cells #[.int .i64 (n : Int), v] 24))
  have HA0 := Lib.hid (pair_new w (.int .i64 (n : Int)) v 24 _ rfl)
  have hn40 := hD.hi
  clear hD
  have hgt : decide ((15 : Int) < (n : Int)) = true := decide_eq_true (by omega)
  obtain ⟨a, c, V, rfl, h1, h2, _, h3⟩ := h
  clear h3
  go_enter Try.func13, Try.ntmps13
  go_wp2_with fail
  refine (HC.out).mono ?_
  rintro e w1 ⟨rfl, hb⟩
  have HB1 := Lib.hid (belowTrans HBx.out hb)
  have b0 := (HA0.out.below hb).cell (show 0 < 2 by omega)
  clear hb
  go_wp2_with fail
  go_ret2
  exact ⟨rfl, HB1.out⟩

theorem full_val : ∀ n : Nat, n < 16 → IntKind.u64.wrap (IntKind.u64.wrap ((2 : Int) ^ n) - 1) = ((fullS n : Nat) : Int) := by decide +kernel
set_option maxRecDepth 100000 in
set_option maxHeartbeats 2000000 in
theorem parallel_ok (n : Nat) (v : Value) (xss : List (List Int)) (w : World) (h : RowsAt w v xss) (hD : IsDes n xss) (hn : n ≤ 15) :
    Calls Try.prog 13 #[.agg #[.int .i64 n, v]] w (ParPost n xss w) := by
  have HC := Lib.hid (check_any n v xss _ (h.below (below_box w (.cells #[.int .i64 (n : Int), v] 24))))
  rw [hD.fault] at HC
  have HV := Lib.hid h
  have HDes := Lib.hid hD
  have HBx := Lib.hid (below_box w (.cells #[.int .i64 (n : Int), v] 24))
  have HA0 := Lib.hid (pair_new w (.int .i64 (n : Int)) v 24 _ rfl)
  have hl := hD.few
  clear hD
  have hgt : decide ((15 : Int) < (n : Int)) = false := decide_eq_false (by omega)
  obtain ⟨a, c, V, rfl, h1, h2, _, h3⟩ := h
  clear h3
  have hmm := @run_makeMap Try.prog
  go_enter Try.func13, Try.ntmps13
  go_wp2_with fail
  refine (HC.out).mono ?_
  rintro e w1 ⟨rfl, hb⟩
  have HB1 := Lib.hid (belowTrans HBx.out hb)
  have HA1 := Lib.hid (HA0.out.below hb)
  have b0 := HA1.out.cell (show 0 < 2 by omega); have b1 := HA1.out.cell (show 1 < 2 by omega)
  clear hb
  go_wp2_with fail
  refine (sets_any n _ xss _ (HV.out.below HB1.out) HDes.out).mono ?_
  rintro e w2 ⟨sv, rfl, hown, hb⟩
  have HB2 := Lib.hid (belowTrans HB1.out hb)
  have HA2 := Lib.hid (HA1.out.below hb)
  obtain ⟨sa, sc, hsv⟩ := OwnU.shape hown
  rw [setsTo_len] at hsv
  subst hsv
  have HO2 := Lib.hid hown
  clear hown hb b0 b1
  have l0 := HA2.out.lt
  have b0 : ((w2.alloc (.map #[] 0)).alloc (.cells #[.slice sa xss.length sc, .map (some w2.heap.size)] 48)).cell? ⟨w.heap.size, 0, none⟩ = some (.int .i64 (n : Int)) := by
    rw [World.cell?_alloc_old _ _ _ (by simp; omega), World.cell?_alloc_old _ _ _ (Nat.ne_of_lt l0)]
    exact HA2.out.cell (show 0 < 2 by omega)
  go_wp2_with fail
  rw [full_val n (by omega)]
  clear hmm b0
  have HM3 := Lib.hid ((MemoIs.made w2).alloc (.cells #[.slice sa xss.length sc, .map (some w2.heap.size)] 48))
  have HBb := Lib.hid (pair_new (w2.alloc (.map #[] 0)) (.slice sa xss.length sc) (.map (some w2.heap.size)) 48 _ rfl)
  rw [World.size_alloc] at HBb
  have HB3 := Lib.hid (belowTrans HB2.out (belowTrans (below_box w2 (.map #[] 0)) (below_box _ (.cells #[.slice sa xss.length sc, .map (some w2.heap.size)] 48))))
  have HBl := Lib.hid (belowTrans (below_box w2 (.map #[] 0)) (below_box _ (.cells #[.slice sa xss.length sc, .map (some w2.heap.size)] 48)))
  have hsz : ((w2.alloc (.map #[] 0)).alloc (.cells #[.slice sa xss.length sc, .map (some w2.heap.size)] 48)).heap.size = w2.heap.size + 2 := by simp
  generalize (w2.alloc (.map #[] 0)).alloc (.cells #[.slice sa xss.length sc, .map (some w2.heap.size)] 48) = W3 at *
  have hbl : ∃ bs : Nat, bs ≠ w2.heap.size ∧ (0 < xss.length → sa = some ⟨bs, 0, none⟩) ∧ PartAt (blkS xss) xss.length sa (w2.heap.size + 1) bs w2.heap.size sc W3 := by
    by_cases h0 : 0 < xss.length
    · obtain ⟨g, gc, eg, hg, _⟩ := HO2.out.cell (i := 0) (by rw [setsTo_len]; exact h0)
      injection eg with eg1 _ _
      subst eg1
      refine ⟨g, Nat.ne_of_lt hg, fun _ => rfl, HBb.out, fun i hi => ?_, by omega⟩
      obtain ⟨g', gc', eg', hg', hcell⟩ := HO2.out.cell (i := i) (by rw [setsTo_len]; exact hi)
      injection eg' with eg1 _ _
      injection eg1 with eg1
      injection eg1 with eg1 _ _
      subst eg1
      rw [setsTo_get xss hi] at hcell
      rw [(bcell HBl.out).1 _ _ hg]
      exact hcell
    · exact ⟨w2.heap.size + 1, by omega, fun h => absurd h h0, HBb.out, fun i hi => absurd hi (by omega), by omega⟩
  obtain ⟨bs, hbs, hao, hP⟩ := hbl
  have hcall := part_any (blkS xss) n xss.length sa (w2.heap.size + 1) bs w2.heap.size sc hao (by omega) hl (fun i hi => setOf_lt (HDes.out.all i hi)) (by omega) hbs xss.length (fullS n) [] W3 (Nat.le_refl _) (full_lt n) hP HM3.out (GoodAcc.nil _ _ _) (by omega)
  rw [Nat.sub_self] at hcall
  refine Calls.mono hcall ?_
  intro e w4 hp
  obtain ⟨acc4, k4, m4, g4, in4, hmt⟩ := hp
  have HB4 : Hid (Below w.heap.size w w4) := Keep2.below HB3.out k4 (by have := HB2.out.size; omega) (by have := HB2.out.size; omega)
  clear k4 m4 g4 in4
  cases ep : par (blkS xss) xss.length xss.length (fullS n) with
  | none =>
    rw [ep] at hmt
    dsimp only at hmt
    subst hmt
    have HE := Lib.hid ep
    clear ep
    go_wp2_with fail
    go_ret2
    unfold ParPost
    rw [HE.out]
    exact ⟨rfl, HB4.out⟩
  | some l =>
    rw [ep] at hmt
    dsimp only at hmt
    obtain ⟨u, rfl, hu, _⟩ := hmt
    have HE := Lib.hid ep
    have HU := Lib.hid hu
    clear ep hu
    go_wp2_with fail
    go_ret2
    unfold ParPost
    rw [HE.out]
    exact ⟨u, rfl, HU.out, HB4.out⟩
end Go.Proofs.Ytkmcmahpfhlkhaa
