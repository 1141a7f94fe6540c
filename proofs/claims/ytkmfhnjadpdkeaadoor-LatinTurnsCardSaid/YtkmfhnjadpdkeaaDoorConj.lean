/-
  Contract: latin.Conjugate of a Latin square. No condition but that the table of orders reads as it is laid.
-/
import Derived.Test.YtkmfhnjadpdkeaaDoorConjLaw
import Derived.Test.YtkmfhnjadpdkeaaDoorLatin3
import Derived.Test.YtkmfhnjadpdkeaaDoorTrans
import Derived.Test.YtkmfhnjadpdkeaaDoorTab
import Derived.Test.YtkmfhnjadpdkeaaDoorOwn
import Derived.Test.YtkmfhnjadpdkeaaDoorCyclic2
namespace Go.Proofs.YtkmfhnjadpdkeaaDoor
open Go.RowKit

/-- The table of orders reads as it is laid. -/
def OrdersAt (w : World) : Prop := 0 < w.heap.size ∧ ∀ k i, k < 6 → i < 3 → w.cell? ⟨0, k * 3 + i, none⟩ = some (.int .i64 (o3 k i : Nat))
theorem OrdersAt.below {w w' : World} (h : OrdersAt w) (hb : Below w.heap.size w w') : OrdersAt w' :=
  ⟨Nat.lt_of_lt_of_le h.1 hb.size, fun k i hk hi => by rw [hb.cell (p := ⟨0, k * 3 + i, none⟩) h.1]; exact h.2 k i hk hi⟩
theorem nums_of_made {w : World} {base g n : Nat} {t : TypeId} (h : w.ownsRow base t 1 (.slice (some ⟨g, 0, none⟩) n n) n (madeCells #[Value.int .i64 0] (n * 1)).toList) : Nums w g n (fun _ => 0) := by
  rcases h.2 with ⟨e, _⟩ | ⟨g', cap, cur, e, hg, hh, hc, hm, hs, ht⟩
  · cases e
  · injection e with e1 e2 e3
    injection e1 with e1
    injection e1 with e1 _ _
    subst e1
    refine ⟨(Array.getElem?_eq_some_iff.1 hh).1, fun j hj => ⟨?_, by simp [World.frozen?, hh]⟩⟩
    rw [cell_of_row w g j cur t (0, 0) hh]
    have e4 : (cur.toList.take (n * 1))[j]? = ((madeCells #[Value.int .i64 0] (n * 1)).toList)[j]? := by rw [ht]
    rw [List.getElem?_take_of_lt (by omega), madeCells_one] at e4
    rw [← Array.getElem?_toList, e4]
    simp [hj]
/-- What stands in memory behind some cells. -/
structure ConjRel (w w1 w2 wr : World) (n N : Nat) (f : Nat → Int) : Prop where
  sq : Arr wr w2.heap.size 2 (fun j => if j = 0 then .int .i64 n else .slice (some ⟨w1.heap.size, 0, none⟩) N N)
  nums : Nums wr w1.heap.size N f
  res : Arr wr (w.heap.size + 1) 2 (fun j => if j = 0 then .int .i64 0 else .slice none 0 0)
  bel : Below w.heap.size w wr
  lo : w.heap.size + 1 < w1.heap.size
  mid : w1.heap.size < w2.heap.size
theorem ConjRel.step {w w1 w2 wr W : World} {n N : Nat} {f : Nat → Int} (h : ConjRel w w1 w2 wr n N f) (hb : Below wr.heap.size wr W) : ConjRel w w1 w2 W n N f :=
  ⟨h.sq.below hb, h.nums.below hb, h.res.below hb, h.bel.trans (hb.mono h.bel.size), h.lo, h.mid⟩
theorem ConjRel.put {w w1 w2 wr : World} {n N : Nat} {f : Nat → Int} (h : ConjRel w w1 w2 wr n N f) {j : Nat} (hj : j < N) (x : Int) : ConjRel w w1 w2 (wr.setCell ⟨w1.heap.size, j, none⟩ (.int .i64 x)) n N (fun i => if i = j then x else f i) :=
  ⟨h.sq.setOther (by have := h.mid; show w1.heap.size ≠ _; omega) _, h.nums.set hj x, h.res.setOther (by have := h.lo; show w1.heap.size ≠ _; omega) _, h.bel.setCell (by have := h.lo; show _ ≤ w1.heap.size; omega) _, h.lo, h.mid⟩

theorem made_facts {w w1 w2 : World} {p q : Value} (hg : World.grownBy w1 w2 (Value.ownBlock (.slice none 0 0))) (z1 : w.heap.size + 1 < w1.heap.size) (z3 : w1.cell? ⟨w.heap.size, 0, none⟩ = some p) (z4 : w1.cell? ⟨w.heap.size, 1, none⟩ = some q) :
    Below w1.heap.size w1 w2 ∧ w.heap.size + 1 < w2.heap.size ∧ w.heap.size < w2.heap.size ∧ w2.cell? ⟨w.heap.size, 0, none⟩ = some p ∧ w2.cell? ⟨w.heap.size, 1, none⟩ = some q := by
  have hb := below_grown (v := .slice none 0 0) hg (B := w1.heap.size) (by intro k hk; cases hk) (Nat.le_refl _)
  have hs := hb.size
  exact ⟨hb, by omega, by omega, by rw [hb.cell (p := ⟨w.heap.size, 0, none⟩) (show w.heap.size < w1.heap.size by omega)]; exact z3, by rw [hb.cell (p := ⟨w.heap.size, 1, none⟩) (show w.heap.size < w1.heap.size by omega)]; exact z4⟩

set_option maxRecDepth 100000 in
set_option maxHeartbeats 1000000 in
theorem conj_yes (n k : Nat) (v : Value) (xs : List Int) (w : World) (h : IntsAt w v xs) (hL : IsLatin n xs) (hk : k < 6) (hO : OrdersAt w) :
    Calls Tryd.prog 10 #[.agg #[.int .i64 n, v], .int .i64 k] w fun e w' => ∃ v', e = .returned (.tuple #[.agg #[.int .i64 n, v'], .int .i64 0]) ∧ IntsAt w' v' (conjL n xs k) ∧ Below w.heap.size w w' := by
  obtain ⟨i0, hi0, hz0, hz1, hz2⟩ := info_parts info_int
  have hn8 : n ≤ 8 := by have := hL.hi; omega
  have hn1 : 1 ≤ n := by have := hL.lo; omega
  have HL := Lib.hid hL
  have HO := Lib.hid hO
  have HF := Lib.hid hL.fault
  have hnn : n * n ≤ 64 := Nat.mul_le_mul hn8 hn8
  have HB0 := Lib.hid (belowTrans (below_box w (.cells #[.int .i64 n, v] 24)) (below_box _ (.cells #[.int .i64 0, .slice none 0 0] 24)))
  have HI := Lib.hid (h.below HB0.out)
  have HI0 := Lib.hid h
  obtain ⟨a, c, rfl, _, _, _, _⟩ := id h
  have hk6 : ((k : Nat) : Int) < 6 := by omega
  have hkd : decide (((k : Nat) : Int) < 0) = false := by simp
  have hkd2 : decide ((6 : Int) ≤ (k : Int)) = false := by rw [decide_eq_false_iff_not]; omega
  have hm := int_val (wrap_mul8 (i := n) (n := n) (by omega) (by omega))
  have HLen := Lib.hid hL.lenN
  obtain ⟨N, hN⟩ : ∃ N, N = n * n := ⟨_, rfl⟩
  rw [← hN] at hnn hm
  have HNN := Lib.hid hN
  have HW : Hid (wrap64 ((n : Int) * (n : Int)) = (N : Int)) := by injection hm
  clear h hL hO hN
  go_enter Tryd.func10, Tryd.ntmps10
  go_wp2_with fail
  refine (check_any n _ xs _ HI.out).mono ?_
  rw [HF.out]
  rintro e w1 ⟨rfl, hb1⟩
  obtain ⟨z1, z2, z3, z4, z5, z6⟩ := box2 hb1
  have H1 := Lib.hid (belowTrans HB0.out hb1)
  have HI1 := Lib.hid (HI.out.below hb1)
  have HR0 : Hid (Arr w1 (w.heap.size + 1) 2 (fun j => if j = 0 then .int .i64 0 else .slice none 0 0)) := by
    have := arr_sq (w.alloc (.cells #[.int .i64 n, .slice a xs.length c] 24)) (.int .i64 0) (.slice none 0 0) 24
    rw [World.size_alloc] at this
    exact this.below hb1
  clear hb1
  go_wp2_with (at_make; go_must (refine wpList_make_full _ rfl _ _ _ rfl w1.heap.size 3 i0 _ 1 Tryd.underlying22 hi0 hz0 hz1 _ _ _ _ N rfl rfl HW.out HW.out (by rw [hz2]; omega) (by unfold maxLen; omega) (Nat.le_refl _) ?_; intro w2 hown2 hgrow2; obtain ⟨y1, y2, y3, y4, y5⟩ := made_facts hgrow2 z1 z3 z4))
  have HR : Hid (ConjRel w w1 w2 (w2.alloc (.cells #[.int .i64 n, .slice (some ⟨w1.heap.size, 0, none⟩) N N] 24)) n N (cfill n xs k 0)) := by
    have hB := below_box w2 (.cells #[.int .i64 n, .slice (some ⟨w1.heap.size, 0, none⟩) N N] 24)
    have hz : w1.heap.size < w2.heap.size := (nums_of_made hown2).lt
    refine ⟨arr_sq _ _ _ _, (nums_of_made hown2).below hB, (HR0.out.below y1).below hB, (H1.out.trans (y1.mono H1.out.size)).trans (hB.mono ?_), z1, hz⟩
    have := H1.out.size; omega
  clear hown2 hgrow2 y1 y2 y3 y4 y5 z1 z2 z3 z4 z5 z6 HI HI1 HR0 H1 HB0
  clear hm HW
  go_loopw [39] (fun s wr => ∃ p : Nat, p ≤ N ∧ s = .int .i64 p ∧ ConjRel w w1 w2 wr n N (cfill n xs k p)) (fun s _ => N - (intOf s).toNat)
  case atStart => exact ⟨0, by omega, rfl, HR.out⟩
  case round =>
    clear HR
    obtain ⟨p, hp, rfl, hR⟩ := hrel
    have HR := Lib.hid hR; clear hR
    by_cases hlt : p < N
    · have hpl : p < xs.length := by rw [HLen.out, ← HNN.out]; exact hlt
      obtain ⟨_, _, e, _, _, _, h5⟩ := HI0.out
      injection e with e1 e2 e3
      obtain ⟨b, o, er, hbb, hc⟩ := h5 p hpl
      have er2 := e1.trans er
      subst er2
      have hcell : wr.cell? ⟨b, o + p, none⟩ = some (.int .i64 (ix xs p)) := by rw [(bcell HR.out.bel).1 _ _ hbb]; exact hc p hpl
      have hxr := HL.out.rng p hpl
      obtain ⟨x, hx⟩ : ∃ x : Nat, ix xs p = x := Int.eq_ofNat_of_zero_le hxr.1
      rw [hx] at hcell hxr
      clear h5 hc e1 e2 e3 er
      have hq1 := int_val (wrap_dv (i := p) (n := n) (by omega))
      have hq2 : ((p : Int) % (n : Int)) = ((md p n : Nat) : Int) := by unfold md; omega
      have hn0 : ¬ n = 0 := by omega
      have HX := Lib.hid hx
      clear hx
      obtain ⟨W1, hW1⟩ : ∃ W1, W1 = (wr.alloc (Obj.cells #[Value.int IntKind.i64 ((dv p n : Nat) : Int), Value.int IntKind.i64 ((md p n : Nat) : Int), Value.int IntKind.i64 (x : Int)] 49)).drew := ⟨_, rfl⟩
      have hb1 : Below wr.heap.size wr W1 := by rw [hW1]; exact (below_box _ _).drew
      have HR1 := Lib.hid (HR.out.step hb1)
      have HO1 := (HO.out.below HR1.out.bel)
      have ht : ∀ i, i < 3 → W1.cell? ⟨wr.heap.size, i, none⟩ = some (.int .i64 (p3 (dv p n) (md p n) x i : Nat)) := by
        intro i hi
        rw [hW1]
        show (wr.alloc _).cell? _ = _
        rw [World.cell?_alloc_new]
        rcases i with _ | _ | _ | i
        · rfl
        · rfl
        · rfl
        · omega
      have g0 := HO1.2 k 0 hk (by omega)
      have g1 := HO1.2 k 1 hk (by omega)
      have g2 := HO1.2 k 2 hk (by omega)
      rw [Nat.add_zero] at g0
      have o0 := o3_lt (i := 0) hk (by omega); have o1 := o3_lt (i := 1) hk (by omega); have o2 := o3_lt (i := 2) hk (by omega)
      have t0 := ht _ o0; have t1 := ht _ o1; have t2 := ht _ o2
      have hpnn : p < n * n := by rw [← HNN.out]; exact hlt
      have hxn : x < n := by omega
      have HXN : Hid ((ix xs p).toNat = x) := by show _ = _; rw [HX.out]; rfl
      have HA : ∀ i, Hid (cAt n xs k i p = p3 (dv p n) (md p n) x (o3 k i)) := fun i => by show _ = _; unfold cAt; rw [HXN.out]
      have hA0 := p3_lt (j := o3 k 0) (dv_lt hpnn) (md_lt hpnn) hxn
      have hA1 := p3_lt (j := o3 k 1) (dv_lt hpnn) (md_lt hpnn) hxn
      have HA0 := HA 0; have HA1 := HA 1; have HA2 := HA 2
      have o0i : ((o3 k 0 : Nat) : Int) < 3 := by omega
      have o1i : ((o3 k 1 : Nat) : Int) < 3 := by omega
      have o2i : ((o3 k 2 : Nat) : Int) < 3 := by omega
      have hpl2 := place_lt hA0 hA1
      rw [← HNN.out] at hpl2
      have hFS : Hid (∀ j, cfill n xs k (p + 1) j = if j = cPlace n xs k p then (cAt n xs k 2 p : Int) else cfill n xs k p j) := fun _ => rfl
      have HP : Hid (cPlace n xs k p = p3 (dv p n) (md p n) x (o3 k 0) * n + p3 (dv p n) (md p n) x (o3 k 1)) := by show _ = _; unfold cPlace; rw [HA0.out, HA1.out]
      have hput := HR1.out.put hpl2 ((p3 (dv p n) (md p n) x (o3 k 2) : Nat) : Int)
      have HPut := Lib.hid hput
      have sq1 := HR1.out.sq.cell (show 1 < 2 by omega)
      have nu1 := HR1.out.nums.cell hpl2
      have nu2 := HR1.out.nums.free hpl2
      clear hput ht HA HO1
      go_wp2_with fail
      go_region
      all_goals
        rw [← hW1]
        clear hW1 hq1 hq2 hcell
        generalize p3 (dv p n) (md p n) x (o3 k 0) = A at *
        generalize p3 (dv p n) (md p n) x (o3 k 1) = B at *
        generalize p3 (dv p n) (md p n) x (o3 k 2) = D at *
        generalize o3 k 0 = i0' at *
        generalize o3 k 1 = i1' at *
        generalize o3 k 2 = i2' at *
        have hmA := int_val (wrap_mul8 (i := A) (n := n) (by omega) (by omega))
        go_wp2_with fail
        go_quiet (fail)
        clear g0 g1 g2 t0 t1 t2
        have q0 : A * n ≤ 64 := by omega
        generalize A * n = An at *
        have HR2 := Lib.hid ((HR1.out.step (below_D W1 nq)).put hpl2 (D : Int))
        have HR3 : Hid (ConjRel w w1 w2 ((W1.drewN nq).setCell ⟨w1.heap.size, An + B, none⟩ (.int .i64 (D : Int))) n N (cfill n xs k (p + 1))) := by
          have e : cfill n xs k (p + 1) = fun i => if i = An + B then (D : Int) else cfill n xs k p i := by
            funext j
            rw [hFS.out j, HP.out, HA2.out]
          rw [e]; exact HR2.out
        go_wp2_with fail
        go_roundw
        case rel => exact ⟨p + 1, by omega, by go_num, HR3.out⟩
        case measure => simp [intOf]; omega
    · obtain rfl : p = N := by omega
      have hge : ¬ ((p : Int) < (xs.length : Int)) := by rw [HLen.out, ← HNN.out]; omega
      have s0 := HR.out.sq.cell (show 0 < 2 by omega); have s1 := HR.out.sq.cell (show 1 < 2 by omega)
      have r0 := HR.out.res.cell (show 0 < 2 by omega); have r1 := HR.out.res.cell (show 1 < 2 by omega)
      have f0 := HR.out.res.free (show 0 < 2 by omega); have f1 := HR.out.res.free (show 1 < 2 by omega)
      have HI2 : Hid (IntsAt wr (.slice (some ⟨w1.heap.size, 0, none⟩) p p) (conjL n xs k)) := by
        refine ⟨some ⟨w1.heap.size, 0, none⟩, p, by rw [conjL_len, ← HNN.out], by rw [conjL_len, ← HNN.out]; omega, by omega, (fun h => by cases h), fun i hi => ⟨w1.heap.size, 0, rfl, HR.out.nums.lt, fun j hj => ?_⟩⟩
        rw [conjL_len] at hj
        rw [Nat.zero_add, conjL_ix hj, ← HNN.out]
        exact HR.out.nums.cell (by rw [HNN.out]; exact hj)
      go_wp2_with fail
      have hlo := HR.out.lo
      refine bodyPost_ret (results_arrT (p := 4) (u := 5) rfl ((HR.out.res.set (show 0 < 2 by omega) (.int .i64 n)).set (show 1 < 2 by omega) (.slice (some ⟨w1.heap.size, 0, none⟩) p p)) Tryd.underlying24 rfl (by kernel_rfl) rfl) rfl
        ⟨.slice (some ⟨w1.heap.size, 0, none⟩) p p, rfl, ?_, (HR.out.bel.setCell (Nat.le_succ _) _).setCell (Nat.le_succ _) _⟩
      have hfar : FarV (w.heap.size + 2) (.slice (some ⟨w1.heap.size, 0, none⟩) p p) := hlo
      exact (HI2.out.setFar hfar (by simp) _).setFar hfar (by simp) _
end Go.Proofs.YtkmfhnjadpdkeaaDoor
