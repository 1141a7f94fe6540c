/-
  Contract: design.Residual. No condition.
-/
import Derived.Test.YtkmcmahpfhlkhaaResLaw
import Derived.Test.YtkmcmahpfhlkhaaComp
namespace Go.Proofs.Ytkmcmahpfhlkhaa
open Go.RowKit

theorem made_nums {w : World} {base g n : Nat} {t : TypeId} (h : w.ownsRow base t 1 (.slice (some ⟨g, 0, none⟩) n n) n (madeCells #[Value.int .i64 0] (n * 1)).toList) : Nums w g n (fun _ => 0) := by
  rcases h.2 with ⟨e, _⟩ | ⟨g', cap, cur, e, hg, hh, hc, hm, hs, ht⟩
  · cases e
  · injection e with e1 e2 e3
    injection e1 with e1
    injection e1 with e1 _ _
    subst e1
    refine ⟨(Array.getElem?_eq_some_iff.1 hh).1, fun j hj => ⟨?_, by simp [World.frozen?, hh]⟩⟩
    rw [cell_of_row w g j cur t (0, 0) hh]
    have e4 : (cur.toList.take (n * 1))[j]? = ((madeCells #[Value.int .i64 0] (n * 1)).toList)[j]? := by rw [ht]
    rw [List.getElem?_take_of_lt (by omega), madeCells_one] at e4
    rw [← Array.getElem?_toList, e4]
    simp [hj]
theorem DesRel.low {w wr : World} {bo : Nat} {n : Int} {dv : Value} {p : Int} {v : Value} {yss : List (List Int)} (h : DesRel w wr bo n dv p v yss) {b j : Nat} (h1 : w.heap.size + 1 < b) (h2 : b < bo) (x : Value) : DesRel w (wr.setCell ⟨b, j, none⟩ x) bo n dv p v yss :=
  ⟨h.box.setOther (by show b ≠ _; omega) _, h.res.setOther (by show b ≠ _; omega) _, h.out.setOther (by show b ≠ _; omega) _, h.own.setFar (by show b < _; omega) _, h.lo, h.bel.setCell (by show _ ≤ b; omega) _⟩
theorem DesRel.setP {w wr : World} {bo : Nat} {n : Int} {dv : Value} {p : Int} {v : Value} {yss : List (List Int)} (h : DesRel w wr bo n dv p v yss) (q : Int) : DesRel w (wr.setCell ⟨bo, 0, none⟩ (.int .i64 q)) bo n dv q v yss := by
  have hlo := h.lo
  refine ⟨h.box.setOther (by show bo ≠ _; omega) _, h.res.setOther (by show bo ≠ _; omega) _, (h.out.set (show 0 < 2 by omega) _).congr fun j hj => ?_, h.own.setFar (by show bo < _; omega) _, h.lo, h.bel.setCell (by show _ ≤ bo; omega) _⟩
  rcases j with _ | _ | j
  · rfl
  · rfl
  · omega
theorem DesRel.nil0 {w wr : World} {bo : Nat} {n : Int} {dv : Value} {p : Int} {v : Value} {yss : List (List Int)} (h : DesRel w wr bo n dv p v yss) (e0 : Int) :
    DesPostT 0 [] e0 w (.returned (.tuple #[.agg ((List.range 2).map (fun j => if j = 1 then Value.slice none 0 0 else if j = 0 then Value.int .i64 0 else .slice none 0 0)).toArray, .int .i64 e0])) ((wr.setCell ⟨w.heap.size + 1, 0, none⟩ (.int .i64 0)).setCell ⟨w.heap.size + 1, 1, none⟩ (.slice none 0 0)) :=
  ⟨.slice none 0 0, rfl, rows_nil _, (h.bel.setCell (by show _ ≤ w.heap.size + 1; omega) _).setCell (by show _ ≤ w.heap.size + 1; omega) _, fun _ _ _ => rows_nil _⟩

theorem nums_push {w w1 w2 : World} {bo : Nat} {n : Int} {dv : Value} {p : Int} {v : Value} {yss : List (List Int)} {nb m : Nat} {f : Nat → Int} (h : Nums w1 nb m f) (hR : DesRel w w1 bo n dv p v yss) (hlt : nb < bo) (hg : w1.grownBy w2 v.ownBlock) (x : Value) :
    Nums (w2.setCell ⟨bo, 1, none⟩ x) nb m f := by
  have hbl : ∀ k, v.ownBlock = some k → bo + 1 ≤ k := fun k hk => (hR.own.block k hk).1
  have hne : some nb ≠ v.ownBlock := fun e => by have := hbl nb e.symm; omega
  refine Arr.setOther ⟨Nat.lt_of_lt_of_le h.lt hg.size, fun j hj => ⟨?_, ?_⟩⟩ (by show bo ≠ nb; omega) _
  · exact (hg.cell_far ⟨nb, j, none⟩ h.lt hne).trans (h.cell hj)
  · exact (hg.frozen_far ⟨nb, j, none⟩ h.lt hne).trans (h.free hj)

/-- What stands in memory while the points outside are numbered. -/
structure NumRel (w wr : World) (nb bo : Nat) (n : Nat) (dv : Value) (b : List Int) (i : Nat) : Prop where
  des : DesRel w wr bo n dv (cntL (offB b) i : Nat) (.slice none 0 0) []
  num : Nums wr nb n (numTo b i)
theorem numTo_next (b : List Int) (i j : Nat) : numTo b (i + 1) j = if j = i then numV b i else numTo b i j := by
  unfold numTo
  by_cases e : j = i
  · subst e; rw [if_pos (by omega), if_pos rfl]
  · rw [if_neg e]
    by_cases h : j < i
    · rw [if_pos h, if_pos (by omega)]
    · rw [if_neg h, if_neg (by omega)]
theorem NumRel.yes {w wr : World} {nb bo n : Nat} {dv : Value} {b : List Int} {i : Nat} (h : NumRel w wr nb bo n dv b i) (h1 : w.heap.size + 1 < nb) (h2 : nb < bo) (hi : i < n) (hm : mem b i = true) :
    NumRel w (wr.setCell ⟨nb, i, none⟩ (.int .i64 (-1))) nb bo n dv b (i + 1) := by
  refine ⟨?_, (h.num.set hi (-1)).congr fun j _ => ?_⟩
  · rw [cntL_no (show offB b i = false by unfold offB; rw [hm]; rfl)]; exact h.des.low h1 h2 _
  · have hv : numV b i = -1 := by unfold numV; rw [hm]; rfl
    rw [numTo_next, hv]
theorem NumRel.no {w wr : World} {nb bo n : Nat} {dv : Value} {b : List Int} {i : Nat} (h : NumRel w wr nb bo n dv b i) (h1 : w.heap.size + 1 < nb) (h2 : nb < bo) (hi : i < n) (hm : mem b i = false) :
    NumRel w (((wr.setCell ⟨nb, i, none⟩ (.int .i64 (-1))).setCell ⟨nb, i, none⟩ (.int .i64 (cntL (offB b) i : Nat))).setCell ⟨bo, 0, none⟩ (.int .i64 ((cntL (offB b) i : Nat) + 1))) nb bo n dv b (i + 1) := by
  refine ⟨?_, ?_⟩
  · rw [cntL_yes (show offB b i = true by unfold offB; rw [hm]; rfl)]
    exact ((h.des.low h1 h2 _).low h1 h2 _).setP _
  · refine Arr.setOther (((h.num.set hi (-1)).set hi (cntL (offB b) i : Nat)).congr fun j _ => ?_) (by show bo ≠ nb; omega) _
    have hv : numV b i = (cntL (offB b) i : Nat) := by unfold numV; rw [hm]; rfl
    rw [numTo_next, hv]
    by_cases e : j = i
    · simp [e]
    · simp [e]

set_option maxRecDepth 100000 in
set_option maxHeartbeats 1000000 in
theorem res_bad (n q : Int) (v : Value) (xss : List (List Int)) (w : World) (h : RowsAt w v xss) (hf : desFault n xss ≠ 0) :
    Calls Try.prog 24 #[.agg #[.int .i64 n, v], .int .i64 q] w (DesPostT 0 [] (desFault n xss) w) := by
  have hne := desNe hf
  have HC := Lib.hid (check_any n v xss _ (h.below (belowTrans (below_box w (.cells #[.int .i64 n, v] 24)) (below_box _ (.cells #[.int .i64 0, .slice none 0 0] 24)))))
  have HR := Lib.hid (arr_new w n v 24)
  clear h hf
  generalize desFault n xss = e0 at *
  go_enter Try.func24, Try.ntmps24
  go_wp2_with fail
  refine (HC.out).mono ?_
  rintro e w1 ⟨rfl, hb⟩
  have HR1 := Lib.hid (HR.out.below hb)
  have r0 := HR1.out.cell (show 0 < 2 by omega); have r1 := HR1.out.cell (show 1 < 2 by omega)
  have f0 := HR1.out.free (show 0 < 2 by omega); have f1 := HR1.out.free (show 1 < 2 by omega)
  have HD := Lib.hid (desT_late hb e0)
  have HA := Lib.hid ((HR1.out.set (show 0 < 2 by omega) (.int .i64 0)).set (show 1 < 2 by omega) (.slice none 0 0))
  clear hb
  go_wp2_with fail
  exact bodyPost_ret (results_pairT (p := 4) (u := 5) rfl HA.out Try.underlying24 rfl (by kernel_rfl) rfl) rfl HD.out

set_option maxRecDepth 100000 in
set_option maxHeartbeats 1000000 in
theorem res_range (n : Nat) (q : Int) (v : Value) (xss : List (List Int)) (w : World) (h : RowsAt w v xss) (hD : IsDes n xss) (hq : q < 0 ∨ (xss.length : Int) ≤ q) :
    Calls Try.prog 24 #[.agg #[.int .i64 n, v], .int .i64 q] w (DesPostT 0 [] 1 w) := by
  have HC := Lib.hid (check_any n v xss _ (h.below (belowTrans (below_box w (.cells #[.int .i64 (n : Int), v] 24)) (below_box _ (.cells #[.int .i64 0, .slice none 0 0] 24)))))
  rw [hD.fault] at HC
  have HR := Lib.hid (arr_new w n v 24)
  have HB : Hid (Arr ((w.alloc (.cells #[.int .i64 (n : Int), v] 24)).alloc (.cells #[.int .i64 0, .slice none 0 0] 24)) w.heap.size 2 (fun j => if j = 0 then Value.int .i64 n else v)) := (pair_new _ _ _ _ _ rfl).alloc _
  obtain ⟨a, c, V, rfl, h1, h2, _, h3⟩ := h
  clear h3 hD
  by_cases h0 : q < 0
  · have e1 : decide (q < 0) = true := by simpa using h0
    clear hq h0
    go_enter Try.func24, Try.ntmps24
    go_wp2_with fail
    refine (HC.out).mono ?_
    rintro e w1 ⟨rfl, hb⟩
    have HR1 := Lib.hid (HR.out.below hb)
    have r0 := HR1.out.cell (show 0 < 2 by omega); have r1 := HR1.out.cell (show 1 < 2 by omega)
    have f0 := HR1.out.free (show 0 < 2 by omega); have f1 := HR1.out.free (show 1 < 2 by omega)
    have HD := Lib.hid (desT_late hb 1)
    have HA := Lib.hid ((HR1.out.set (show 0 < 2 by omega) (.int .i64 0)).set (show 1 < 2 by omega) (.slice none 0 0))
    clear hb
    go_wp2_with fail
    exact bodyPost_ret (results_pairT (p := 4) (u := 5) rfl HA.out Try.underlying24 rfl (by kernel_rfl) rfl) rfl HD.out
  · have e1 : decide (q < 0) = false := by simpa using h0
    have e2 : decide ((xss.length : Int) ≤ q) = true := by simp; omega
    clear hq h0
    go_enter Try.func24, Try.ntmps24
    go_wp2_with fail
    refine (HC.out).mono ?_
    rintro e w1 ⟨rfl, hb⟩
    have HR1 := Lib.hid (HR.out.below hb)
    have r0 := HR1.out.cell (show 0 < 2 by omega); have r1 := HR1.out.cell (show 1 < 2 by omega)
    have f0 := HR1.out.free (show 0 < 2 by omega); have f1 := HR1.out.free (show 1 < 2 by omega)
    have b1 := (HB.out.below hb).cell (show 1 < 2 by omega)
    have HD := Lib.hid (desT_late hb 1)
    have HA := Lib.hid ((HR1.out.set (show 0 < 2 by omega) (.int .i64 0)).set (show 1 < 2 by omega) (.slice none 0 0))
    clear hb
    go_wp2_with fail
    exact bodyPost_ret (results_pairT (p := 4) (u := 5) rfl HA.out Try.underlying24 rfl (by kernel_rfl) rfl) rfl HD.out
end Go.Proofs.Ytkmcmahpfhlkhaa
