/-
  Contract: the reference's ConjugateOf a Latin square. No condition.
-/
import Derived.Test.YtkmfhnjadpdkeaaDoorConjOf
import Derived.Deep.OwnRows
namespace Go.Proofs.YtkmfhnjadpdkeaaDoor
open Go.RowKit

theorem ord_cases {n : Nat} {xs : List Int} {k p r c x : Nat} (hk : k < 6) (hr : dv p n = r) (hc : md p n = c) (hx : (ix xs p).toNat = x) :
    (((k : Int) == 1) = false ∧ ((k : Int) == 2) = false ∧ ((k : Int) == 3) = false ∧ ((k : Int) == 4) = false ∧ ((k : Int) == 5) = false ∧ cAt n xs k 0 p = r ∧ cAt n xs k 1 p = c ∧ cAt n xs k 2 p = x) ∨
    (((k : Int) == 1) = true ∧ cAt n xs k 0 p = r ∧ cAt n xs k 1 p = x ∧ cAt n xs k 2 p = c) ∨
    (((k : Int) == 1) = false ∧ ((k : Int) == 2) = true ∧ cAt n xs k 0 p = c ∧ cAt n xs k 1 p = r ∧ cAt n xs k 2 p = x) ∨
    (((k : Int) == 1) = false ∧ ((k : Int) == 2) = false ∧ ((k : Int) == 3) = true ∧ cAt n xs k 0 p = c ∧ cAt n xs k 1 p = x ∧ cAt n xs k 2 p = r) ∨
    (((k : Int) == 1) = false ∧ ((k : Int) == 2) = false ∧ ((k : Int) == 3) = false ∧ ((k : Int) == 4) = true ∧ cAt n xs k 0 p = x ∧ cAt n xs k 1 p = r ∧ cAt n xs k 2 p = c) ∨
    (((k : Int) == 1) = false ∧ ((k : Int) == 2) = false ∧ ((k : Int) == 3) = false ∧ ((k : Int) == 4) = false ∧ ((k : Int) == 5) = true ∧ cAt n xs k 0 p = x ∧ cAt n xs k 1 p = c ∧ cAt n xs k 2 p = r) := by
  subst hr; subst hc; subst hx
  have h1 : k = 0 ∨ k = 1 ∨ k = 2 ∨ k = 3 ∨ k = 4 ∨ k = 5 := by omega
  rcases h1 with rfl | rfl | rfl | rfl | rfl | rfl
  · exact .inl ⟨rfl, rfl, rfl, rfl, rfl, rfl, rfl, rfl⟩
  · exact .inr (.inl ⟨rfl, rfl, rfl, rfl⟩)
  · exact .inr (.inr (.inl ⟨rfl, rfl, rfl, rfl, rfl⟩))
  · exact .inr (.inr (.inr (.inl ⟨rfl, rfl, rfl, rfl, rfl, rfl⟩)))
  · exact .inr (.inr (.inr (.inr (.inl ⟨rfl, rfl, rfl, rfl, rfl, rfl, rfl⟩))))
  · exact .inr (.inr (.inr (.inr (.inr ⟨rfl, rfl, rfl, rfl, rfl, rfl, rfl, rfl⟩))))

/-- What stands in memory behind some cells; bs: the square's block, bn: its cells'. -/
structure CofRel (w wr : World) (bs bn : Nat) (n N : Nat) (v : Value) (f : Nat → Int) : Prop where
  box : Arr wr w.heap.size 2 (fun j => if j = 0 then .int .i64 n else v)
  sq : Arr wr bs 2 (fun j => if j = 0 then .int .i64 n else .slice (some ⟨bn, 0, none⟩) N N)
  nums : Nums wr bn N f
  res : Arr wr (w.heap.size + 1) 2 (fun j => if j = 0 then .int .i64 0 else .slice none 0 0)
  bel : Below w.heap.size w wr
  lo : w.heap.size + 1 < bn
  lo2 : w.heap.size + 1 < bs
  ne : bn ≠ bs
theorem CofRel.put {w wr : World} {bs bn n N : Nat} {v : Value} {f : Nat → Int} (h : CofRel w wr bs bn n N v f) {j : Nat} (hj : j < N) (x : Int) : CofRel w (wr.setCell ⟨bn, j, none⟩ (.int .i64 x)) bs bn n N v (fun i => if i = j then x else f i) :=
  ⟨h.box.setOther (by have := h.lo; show bn ≠ _; omega) _, h.sq.setOther h.ne _, h.nums.set hj x, h.res.setOther (by have := h.lo; show bn ≠ _; omega) _, h.bel.setCell (by have := h.lo; show _ ≤ bn; omega) _, h.lo, h.lo2, h.ne⟩

theorem arr_pair (w : World) (p q : Value) (t : TypeId) (b : Nat) (hb : b = w.heap.size) : Arr (w.alloc (.cells #[p, q] t)) b 2 (fun j => if j = 0 then p else q) := by
  subst hb; exact arr_sq w p q t
theorem cof_a (w : World) (n : Nat) (v : Value) (N : Nat) (MC : Array Value) (hMC : MC = madeCells #[Value.int .i64 0] N) :
    CofRel w ((((w.alloc (.cells #[.int .i64 n, v] 24)).alloc (.cells #[.int .i64 0, .slice none 0 0] 24)).alloc (.cells #[.int .i64 n, .slice (some ⟨w.heap.size + 1 + 1 + 1, 0, none⟩) N N] 24)).alloc (.cells MC 3)).drew
      (w.heap.size + 1 + 1) (w.heap.size + 1 + 1 + 1) n N v (fun _ => 0) := by
  rw [madeCells_one] at hMC
  refine ⟨?_, ?_, ?_, ?_, ?_, by omega, by omega, by omega⟩
  · exact (((arr_sq w _ _ _).alloc _).alloc _).alloc _
  · exact (arr_pair _ _ _ _ _ (by simp)).alloc _
  · exact Arr.newAt _ N _ _ _ _ (by simp) hMC
  · exact ((arr_pair _ _ _ _ _ (by simp)).alloc _).alloc _
  · exact ((((below_box w _).trans ((below_box _ _).mono (by simp))).trans ((below_box _ _).mono (by simp; omega))).trans ((below_box _ _).mono (by simp; omega))).drew
theorem cof_b (w : World) (n : Nat) (v : Value) (N : Nat) (MC : Array Value) (hMC : MC = madeCells #[Value.int .i64 0] N) :
    CofRel w ((((w.alloc (.cells #[.int .i64 n, v] 24)).alloc (.cells #[.int .i64 0, .slice none 0 0] 24)).alloc (.cells MC 3)).alloc (.cells #[.int .i64 n, .slice (some ⟨w.heap.size + 1 + 1, 0, none⟩) N N] 24)).drew
      (w.heap.size + 1 + 1 + 1) (w.heap.size + 1 + 1) n N v (fun _ => 0) := by
  rw [madeCells_one] at hMC
  refine ⟨?_, ?_, ?_, ?_, ?_, by omega, by omega, by omega⟩
  · exact (((arr_sq w _ _ _).alloc _).alloc _).alloc _
  · exact (arr_pair _ _ _ _ _ (by simp))
  · exact (Arr.newAt _ N _ _ _ _ (by simp) hMC).alloc _
  · exact ((arr_pair _ _ _ _ _ (by simp)).alloc _).alloc _
  · exact ((((below_box w _).trans ((below_box _ _).mono (by simp))).trans ((below_box _ _).mono (by simp; omega))).trans ((below_box _ _).mono (by simp; omega))).drew

set_option maxRecDepth 100000 in
set_option maxHeartbeats 2000000 in
theorem conjOf_any (n k : Nat) (v : Value) (xs : List Int) (w : World) (h : IntsAt w v xs) (hL : IsLatin n xs) (hk : k < 6) :
    Calls Tryd.prog 12 #[.agg #[.int .i64 n, v], .int .i64 k] w fun e w' => ∃ v', e = .returned (.agg #[.int .i64 n, v']) ∧ IntsAt w' v' (conjL n xs k) ∧ Below w.heap.size w w' := by
  have hn8 : n ≤ 8 := by have := hL.hi; omega
  have hn1 : 1 ≤ n := by have := hL.lo; omega
  have HL := Lib.hid hL
  have hnn : n * n ≤ 64 := Nat.mul_le_mul hn8 hn8
  have HI0 := Lib.hid h
  obtain ⟨a, c, rfl, _, _, _, _⟩ := id h
  have HLen := Lib.hid hL.lenN
  have hl64 : xs.length ≤ 64 := by have := hL.lenN; omega
  obtain ⟨MC, hMC⟩ : ∃ MC, MC = madeCells #[Value.int .i64 0] xs.length := ⟨_, rfl⟩
  have hmk := fun W => run_make_row' (P := Tryd.prog) 22 3 (.int .i64 0) 8 Tryd.underlying22 info_int rfl .i64 .i64 xs.length (by omega) (by omega) W
  rw [← hMC] at hmk
  have HMC := Lib.hid hMC
  clear h hL hMC
  go_enter Tryd.func12, Tryd.ntmps12
  go_wp2_with fail
  go_region
  all_goals
    clear hmk
    obtain ⟨W1, hW1⟩ : ∃ W1, W1 = ((((w.alloc (.cells #[.int .i64 (n : Int), .slice a xs.length c] 24)).alloc (.cells #[.int .i64 0, .slice none 0 0] 24)).alloc (.cells #[.int .i64 (n : Int), .slice (some ⟨w.heap.size + 1 + 1 + 1, 0, none⟩) xs.length xs.length] 24)).alloc (.cells MC 3)).drew := ⟨_, rfl⟩
    obtain ⟨W2, hW2⟩ : ∃ W2, W2 = ((((w.alloc (.cells #[.int .i64 (n : Int), .slice a xs.length c] 24)).alloc (.cells #[.int .i64 0, .slice none 0 0] 24)).alloc (.cells MC 3)).alloc (.cells #[.int .i64 (n : Int), .slice (some ⟨w.heap.size + 1 + 1, 0, none⟩) xs.length xs.length] 24)).drew := ⟨_, rfl⟩
    have HA : Hid (CofRel w W1 (w.heap.size + 1 + 1) (w.heap.size + 1 + 1 + 1) n xs.length (.slice a xs.length c) (cfill n xs k 0)) := by rw [hW1]; exact cof_a w n _ _ MC HMC.out
    have HB : Hid (CofRel w W2 (w.heap.size + 1 + 1 + 1) (w.heap.size + 1 + 1) n xs.length (.slice a xs.length c) (cfill n xs k 0)) := by rw [hW2]; exact cof_b w n _ _ MC HMC.out
    first
    | (rw [← hW1]; clear hW1 hW2 HB W2; have HR := HA; clear HA; generalize w.heap.size + 1 + 1 + 1 = bn at HR ⊢; generalize w.heap.size + 1 + 1 = bs at HR ⊢)
    | (rw [← hW2]; clear hW1 hW2 HA W1; have HR := HB; clear HB; generalize w.heap.size + 1 + 1 + 1 = bs at HR ⊢; generalize w.heap.size + 1 + 1 = bn at HR ⊢)
    go_wp2_with fail
    go_loopw [6] (fun s wr => ∃ p : Nat, p ≤ xs.length ∧ s = .int .i64 p ∧ CofRel w wr bs bn n xs.length (.slice a xs.length c) (cfill n xs k p)) (fun s _ => xs.length - (intOf s).toNat)
    case atStart => exact ⟨0, by omega, rfl, HR.out⟩
    case round =>
      clear HR
      obtain ⟨p, hp, rfl, hR⟩ := hrel
      have HR := Lib.hid hR
      have b0 := hR.box.cell (show 0 < 2 by omega); have b1 := hR.box.cell (show 1 < 2 by omega)
      clear hR
      by_cases hlt : p < xs.length
      · obtain ⟨_, _, e, _, _, _, h5⟩ := HI0.out
        injection e with e1 e2 e3
        obtain ⟨b, o, er, hbb, hc⟩ := h5 p hlt
        have er2 := e1.trans er
        subst er2
        have hcell : wr.cell? ⟨b, o + p, none⟩ = some (.int .i64 (ix xs p)) := by rw [(bcell HR.out.bel).1 _ _ hbb]; exact hc p hlt
        have hxr := HL.out.rng p hlt
        obtain ⟨x, hx⟩ : ∃ x : Nat, ix xs p = x := Int.eq_ofNat_of_zero_le hxr.1
        rw [hx] at hcell hxr
        have hpnn : p < n * n := by rw [← HLen.out]; exact hlt
        have hrn := dv_lt hpnn; have hcn := md_lt hpnn
        have hxn : x < n := by omega
        have hq1 := int_val (wrap_dv (i := p) (n := n) (by omega))
        have hq2 : ((p : Int) % (n : Int)) = ((md p n : Nat) : Int) := by unfold md; omega
        have hn0 : ¬ n = 0 := by omega
        have hcases := ord_cases (n := n) (xs := xs) (k := k) (p := p) (r := dv p n) (c := md p n) (x := x) hk rfl rfl (by rw [hx]; rfl)
        generalize dv p n = r at *
        generalize md p n = cc at *
        clear h5 hc e1 e2 e3 er hx
        have hFS : Hid (∀ j, cfill n xs k (p + 1) j = if j = cPlace n xs k p then (cAt n xs k 2 p : Int) else cfill n xs k p j) := fun _ => rfl
        have HPl : Hid (∀ A B, A < n → B < n → A * n + B < xs.length) := fun A B hA hB => by rw [HLen.out]; exact place_lt hA hB
        have sq1 := HR.out.sq.cell (show 1 < 2 by omega)
        have HPut : Hid (∀ A B D : Nat, A < n → B < n → cAt n xs k 0 p = A → cAt n xs k 1 p = B → cAt n xs k 2 p = D → CofRel w (wr.setCell ⟨bn, A * n + B, none⟩ (.int .i64 (D : Int))) bs bn n xs.length (.slice (some ⟨b, o, none⟩) xs.length c) (cfill n xs k (p + 1))) := by
          intro A B D hA hB e0 e1 e2
          have e : cfill n xs k (p + 1) = fun i => if i = A * n + B then (D : Int) else cfill n xs k p i := by
            funext j
            rw [hFS.out j]; unfold cPlace; rw [e0, e1, e2]
          rw [e]
          exact HR.out.put (HPl.out A B hA hB) _
        have HN1 : Hid (∀ A B, A < n → B < n → wr.cell? ⟨bn, A * n + B, none⟩ = some (.int .i64 (cfill n xs k p (A * n + B)))) := fun A B hA hB => HR.out.nums.cell (HPl.out A B hA hB)
        have HN2 : Hid (∀ A B, A < n → B < n → wr.frozen? ⟨bn, A * n + B, none⟩ = false) := fun A B hA hB => HR.out.nums.free (HPl.out A B hA hB)
        have HM : Hid (∀ A, A < n → Value.int .i64 (wrap64 ((A : Int) * (n : Int))) = Value.int .i64 ((A * n : Nat) : Int)) := fun A hA => int_val (wrap_mul8 (by omega) (by omega))
        have HQ : Hid (∀ A, A < n → A * n ≤ 64) := fun A hA => Nat.mul_le_mul (show A ≤ 8 by omega) hn8
        rcases hcases with ⟨w1, w2, w3, w4, w5, e0, e1, e2⟩ | ⟨w1, e0, e1, e2⟩ | ⟨w1, w2, e0, e1, e2⟩ | ⟨w1, w2, w3, e0, e1, e2⟩ | ⟨w1, w2, w3, w4, e0, e1, e2⟩ | ⟨w1, w2, w3, w4, w5, e0, e1, e2⟩
        all_goals
          have hA0 : cAt n xs k 0 p < n := by rw [e0]; assumption
          have hA1 : cAt n xs k 1 p < n := by rw [e1]; assumption
          obtain ⟨q, hq⟩ : ∃ q, q = cAt n xs k 0 p * n := ⟨_, rfl⟩
          have hP := HPut.out _ _ _ hA0 hA1 rfl rfl rfl
          have n1 := HN1.out _ _ hA0 hA1
          have n2 := HN2.out _ _ hA0 hA1
          have m1 := HM.out _ hA0
          have q0 := HQ.out _ hA0
          have pl := HPl.out _ _ hA0 hA1
          rw [← hq, e1, e2] at hP
          rw [← hq, e1] at n1 n2 pl
          rw [← hq, e0] at m1
          rw [← hq] at q0
          have HP := Lib.hid hP
          clear hP hA0 hA1 hq e0 e1 e2
          go_wp2_with fail
          go_roundw
          case rel => exact ⟨p + 1, by omega, by go_num, HP.out⟩
          case measure => simp [intOf]; omega
      · obtain rfl : p = xs.length := by omega
        have s0 := HR.out.sq.cell (show 0 < 2 by omega); have s1 := HR.out.sq.cell (show 1 < 2 by omega)
        have r0 := HR.out.res.cell (show 0 < 2 by omega); have r1 := HR.out.res.cell (show 1 < 2 by omega)
        have f0 := HR.out.res.free (show 0 < 2 by omega); have f1 := HR.out.res.free (show 1 < 2 by omega)
        have HI2 : Hid (IntsAt wr (.slice (some ⟨bn, 0, none⟩) xs.length xs.length) (conjL n xs k)) := by
          refine ⟨some ⟨bn, 0, none⟩, xs.length, by rw [conjL_len, ← HLen.out], by rw [conjL_len, ← HLen.out]; omega, by omega, (fun h => by cases h), fun i hi => ⟨bn, 0, rfl, HR.out.nums.lt, fun j hj => ?_⟩⟩
          rw [conjL_len] at hj
          rw [Nat.zero_add, conjL_ix hj, ← HLen.out]
          exact HR.out.nums.cell (by rw [HLen.out]; exact hj)
        have hlo := HR.out.lo
        go_wp2_with fail
        refine bodyPost_ret (results_arr1 (p := 4) rfl ((HR.out.res.set (show 0 < 2 by omega) (.int .i64 n)).set (show 1 < 2 by omega) (.slice (some ⟨bn, 0, none⟩) xs.length xs.length)) Tryd.underlying24 rfl (by kernel_rfl) rfl) rfl
          ⟨.slice (some ⟨bn, 0, none⟩) xs.length xs.length, rfl, ?_, (HR.out.bel.setCell (Nat.le_succ _) _).setCell (Nat.le_succ _) _⟩
        have hfar : FarV (w.heap.size + 2) (.slice (some ⟨bn, 0, none⟩) xs.length xs.length) := hlo
        exact (HI2.out.setFar hfar (by simp) _).setFar hfar (by simp) _
end Go.Proofs.YtkmfhnjadpdkeaaDoor
