/-
  Contract: the reference's ExtendOf. No condition.
-/
import Derived.Test.YtkmfhnjadpdkeaaOn
import Derived.Test.YtkmfhnjadpdkeaaExtend
namespace Go.Proofs.Ytkmfhnjadpdkeaa
open Go.RowKit

theorem nums_of_made {w : World} {base g n : Nat} {t : TypeId} (h : w.ownsRow base t 1 (.slice (some ⟨g, 0, none⟩) n n) n (madeCells #[Value.int .i64 0] (n * 1)).toList) : Nums w g n (fun _ => 0) := by
  rcases h.2 with ⟨e, _⟩ | ⟨g', cap, cur, e, hg, hh, hc, hm, hs, ht⟩
  · cases e
  · injection e with e1 e2 e3
    injection e1 with e1
    injection e1 with e1 _ _
    subst e1
    refine ⟨(Array.getElem?_eq_some_iff.1 hh).1, fun j hj => ⟨?_, by simp [World.frozen?, hh]⟩⟩
    rw [cell_of_row w g j cur t (0, 0) hh]
    have e4 : (cur.toList.take (n * 1))[j]? = ((madeCells #[Value.int .i64 0] (n * 1)).toList)[j]? := by rw [ht]
    rw [List.getElem?_take_of_lt (by omega), madeCells_one] at e4
    rw [← Array.getElem?_toList, e4]
    simp [hj]
theorem rowsF_pre {n : Nat} {xss : List (List Int)} : ∀ {m : Nat}, rowsF n xss m = 0 → ∀ i, i ≤ m → rowsF n xss i = 0
  | 0, h, i, hi => by
    obtain rfl : i = 0 := by omega
    exact h
  | m + 1, h, i, hi => by
    by_cases e : i = m + 1
    · subst e; exact h
    · have : rowsF n xss m = 0 := by
        rw [rowsF] at h
        by_cases e2 : rowsF n xss m = 0
        · exact e2
        · rw [if_neg e2] at h; exact h
      exact rowsF_pre this i (by omega)
theorem rows_len {n : Nat} {xss : List (List Int)} {m : Nat} (h : rowsF n xss m = 0) {i : Nat} (hi : i < m) : (rx xss i).length = n := by
  have h1 := rowsF_pre h (i + 1) (by omega)
  rw [rowsF_next (rowsF_pre h i (by omega))] at h1
  unfold rowF at h1
  by_cases e : (rx xss i).length = n
  · exact e
  · rw [if_pos e] at h1; cases h1
theorem Agree.intsAt {N : Nat} {ys : List Int} {w : World} {b : Nat} (h : Agree N ys w b) (hl : ys.length = N) (hN : N ≤ 64) : IntsAt w (.slice (some ⟨b, 0, none⟩) N N) ys := by
  obtain ⟨f, h1, h2⟩ := h
  refine ⟨some ⟨b, 0, none⟩, N, by rw [hl], by omega, by omega, (fun h => by cases h), fun i hi => ⟨b, 0, rfl, h1.lt, fun j hj => ?_⟩⟩
  rw [Nat.zero_add, Arr.cell h1 (by omega)]
  show some (Value.int .i64 (f j)) = _
  rw [h2 j hj]

/-- The call's result, the square's cells behind it. -/
structure OfRel (w wr : World) (N : Nat) (xs : List Int) : Prop where
  res : Arr wr w.heap.size 2 (fun j => if j = 0 then .int .i64 0 else .slice none 0 0)
  agr : Agree N xs wr (w.heap.size + 1)
  bel : Below w.heap.size w wr
theorem OfRel.put {w wr : World} {N : Nat} {xs : List Int} (h : OfRel w wr N xs) (x : Int) (hl : xs.length < N) : OfRel w (wr.setCell ⟨w.heap.size + 1, xs.length, none⟩ (.int .i64 x)) N (xs ++ [x]) :=
  ⟨h.res.setOther (by simp) _, h.agr.put x hl, h.bel.setCell (Nat.le_succ _) _⟩

set_option maxRecDepth 100000 in
set_option maxHeartbeats 1000000 in
theorem extOf_any (n : Nat) (v : Value) (xss : List (List Int)) (w : World) (h : RowsAt w v xss) (h1 : 1 ≤ n) (h8 : n ≤ 8) (hr : xss.length ≤ n) (hF : rowsF n xss xss.length = 0) (ys : List Int)
    (hg : goOn n ((n - xss.length) * n) (flat xss xss.length) = some ys) (hl : ys.length = n * n) :
    Calls Try.prog 28 #[.int .i64 n, v] w fun e w' => ∃ v, e = .returned (.agg #[.int .i64 n, v]) ∧ IntsAt w' v ys ∧ Below w.heap.size w w' := by
  obtain ⟨i0, hi0, hz0, hz1, hz2⟩ := info_parts info_int
  obtain ⟨a, c, V, rfl, q1, q2, _, q3⟩ := h
  have HR := Lib.hid q3; clear q3
  have HF := Lib.hid hF
  have hnn : n * n ≤ 64 := Nat.mul_le_mul h8 h8
  have hm := int_val (wrap_mul8 (i := n) (n := n) (by omega) (by omega))
  have hm2 := int_val (wrap_mul8 (i := xss.length) (n := n) (by omega) (by omega))
  have hfl := (flat_ok hF).1
  have hsplit : xss.length * n + (n - xss.length) * n = n * n := by rw [← Nat.add_mul]; congr 1; omega
  have HOC : Hid (∀ wr, OfRel w wr (n * n) (flat xss xss.length) → Calls Try.prog 60 #[.int .i64 n, .slice (some ⟨w.heap.size + 1, 0, none⟩) (n * n) (n * n), .int .i64 ((xss.length * n : Nat) : Int)] wr
      fun e w' => e = .returned (.bool true) ∧ OfRel w w' (n * n) ys) := by
    intro wr hrel
    have h2 := on_any n (w.heap.size + 1) h1 h8 ((n - xss.length) * n) (flat xss xss.length) wr (by omega) hrel.agr
    rw [hg, hfl] at h2
    refine h2.mono ?_
    intro e w' hp
    obtain ⟨hb, rfl, hA⟩ := hp
    refine ⟨rfl, ?_, hA, hrel.bel.trans (hb.mono (Nat.le_succ _))⟩
    have hsz := hb.size
    exact Arr.kept hrel.res (fun o => hb.cell (p := ⟨w.heap.size, o, none⟩) (Nat.lt_succ_self _)) (fun o => hb.frozen (p := ⟨w.heap.size, o, none⟩) (Nat.lt_succ_self _)) hsz
  have HPl : Hid (∀ i j, i < xss.length → j < n → i * n + j < n * n) := fun i j hi hj => by
    have := place_lt' (r := xss.length) hi hj
    have h3 : xss.length * n ≤ n * n := Nat.mul_le_mul hr (Nat.le_refl n)
    omega
  have Hl := Lib.hid hl
  clear hl hg hF hfl hsplit
  obtain ⟨N, hN⟩ : ∃ N, N = n * n := ⟨_, rfl⟩
  rw [← hN] at hnn hm HOC HPl Hl
  obtain ⟨M, hM⟩ : ∃ M, M = xss.length * n := ⟨_, rfl⟩
  rw [← hM] at hm2 HOC
  clear hN hM
  have HW : Hid (wrap64 ((n : Int) * (n : Int)) = (N : Int)) := by injection hm
  go_enter Try.func28, Try.ntmps28
  go_wp2_with (at_make; go_must (refine wpList_make_full _ rfl _ _ _ rfl (w.heap.size + 1) 3 i0 _ 1 Try.underlying22 hi0 hz0 hz1 _ _ _ _ N rfl rfl HW.out HW.out (by rw [hz2]; omega) (by unfold maxLen; omega) (by simp) ?_; intro w2 hown2 hgrow2))
  have HZ2 : Hid (OfRel w w2 N []) := by
    have hg1 : ∀ k, (Value.slice none 0 0).ownBlock = some k → w.heap.size + 1 ≤ k := by intro k hk; cases hk
    have hgs := hgrow2.size
    rw [World.size_alloc] at hown2
    simp only [World.size_alloc] at hgs
    refine ⟨?_, ⟨_, nums_of_made hown2, fun k hk => by simp at hk⟩, (below_box w _).grown hgrow2 (by simp) (by intro k hk; cases hk)⟩
    refine Arr.kept (arr_sq w (.int .i64 0) (.slice none 0 0) 24) (fun o => ?_) (fun o => ?_) (by simp; omega)
    · exact (far_cell (v := .slice none 0 0) hgrow2 (base := w.heap.size + 1) hg1 (by omega) (by simp)).1
    · exact (far_cell (v := .slice none 0 0) hgrow2 (base := w.heap.size + 1) hg1 (by omega) (by simp)).2
  clear hown2 hgrow2
  go_wp2_with fail
  clear hm
  go_loopw [6] (fun s wr => ∃ i : Nat, i ≤ xss.length ∧ s = .int .i64 i ∧ OfRel w wr N (flat xss i)) (fun s _ => xss.length - (intOf s).toNat)
  case atStart => exact ⟨0, by omega, rfl, HZ2.out⟩
  case round =>
    clear HZ2
    obtain ⟨i, hi, rfl, hZ⟩ := hrel
    have HZ := Lib.hid hZ; clear hZ
    by_cases hlt : i < xss.length
    · have Hrl := Lib.hid (rows_len HF.out hlt)
      have Hfl := Lib.hid (flat_ok (rowsF_pre HF.out i (by omega))).1
      obtain ⟨hrow, b, o, rfl, hb, hc⟩ := HR.out i hlt
      have HCell := Lib.hid (hc i hlt)
      have HRow := Lib.hid hrow
      obtain ⟨ra, rc, hV, e1, e2, _⟩ := hrow
      rw [hV] at HRow HCell
      clear hc hV
      have hmi := int_val (wrap_mul8 (i := i) (n := n) (by omega) (by omega))
      go_wp2_with fail
      go_loopw [7] (fun s wr => ∃ j : Nat, j ≤ n ∧ s = .int .i64 j ∧ OfRel w wr N (flat xss i ++ (rx xss i).take j)) (fun s _ => n - (intOf s).toNat)
      case atStart => exact ⟨0, by omega, rfl, by simpa using HZ.out⟩
      case round =>
        clear HZ
        obtain ⟨j, hj, rfl, hZ⟩ := hrel
        have HZ := Lib.hid hZ; clear hZ
        by_cases hjn : j < n
        · have hjl : j < (rx xss i).length := by rw [Hrl.out]; exact hjn
          have hpl := HPl.out i j hlt hjn
          have hcell : wr.cell? ⟨b, o + i, none⟩ = some (.slice ra (rx xss i).length rc) := by rw [(bcell HZ.out.bel).1 _ _ (by assumption)]; exact HCell.out
          obtain ⟨_, _, e, _, _, _, h5⟩ := HRow.out
          injection e with e3 e4 e5
          obtain ⟨rb, ro, er, hrb, hrc⟩ := h5 j hjl
          have er2 := e3.trans er
          subst er2
          have hc1 := hrc j hjl
          rw [← (bcell HZ.out.bel).1 _ _ hrb] at hc1
          clear h5 hrc e3 e4 e5 er
          have hlist : (flat xss i ++ (rx xss i).take j).length = i * n + j := by rw [List.length_append, Hfl.out, List.length_take]; omega
          have HP := HZ.out.put (ix (rx xss i) j) (by rw [hlist]; exact hpl)
          rw [hlist, List.append_assoc, ← take_succ_ix hjl] at HP
          have HP1 := Lib.hid HP
          obtain ⟨f, hf1, _⟩ := HZ.out.agr
          have s1 : wr.cell? ⟨w.heap.size + 1, i * n + j, none⟩ = some (.int .i64 (f (i * n + j))) := Arr.cell hf1 hpl
          have s2 : wr.frozen? ⟨w.heap.size + 1, i * n + j, none⟩ = false := Arr.free hf1 hpl
          clear HP hlist hf1
          generalize f (i * n + j) = old at s1
          have q0 : i * n ≤ 64 := by omega
          generalize i * n = q at *
          go_wp2_with fail
          go_roundw
          case rel => exact ⟨j + 1, by omega, by go_num, HP1.out⟩
          case measure => simp [intOf]; omega
        · obtain rfl : j = n := by omega
          have Htk : Hid (OfRel w wr N (flat xss (i + 1))) := by
            have := HZ.out
            rw [← Hrl.out, List.take_length] at this
            exact this
          clear HZ hmi
          go_wp2_with fail
          go_roundw
          case rel => exact ⟨i + 1, by omega, by go_num, Htk.out⟩
          case measure => simp [intOf]; omega
    · obtain rfl : i = xss.length := by omega
      go_wp2_with fail
      refine (HOC.out wr HZ.out).mono ?_
      rintro e w3 ⟨rfl, hrel⟩
      have HZ3 := Lib.hid hrel
      have z1 := hrel.res.cell (show 0 < 2 by omega); have z2 := hrel.res.cell (show 1 < 2 by omega)
      have z3 := hrel.res.free (show 0 < 2 by omega); have z4 := hrel.res.free (show 1 < 2 by omega)
      clear hrel hm2
      go_wp2_with fail
      refine bodyPost_ret (results_arr1 (p := 4) rfl ((HZ3.out.res.set (show 0 < 2 by omega) (.int .i64 n)).set (show 1 < 2 by omega) (.slice (some ⟨w.heap.size + 1, 0, none⟩) N N)) Try.underlying24 rfl (by kernel_rfl) rfl) rfl
        ⟨.slice (some ⟨w.heap.size + 1, 0, none⟩) N N, rfl, ?_, (HZ3.out.bel.setCell (Nat.le_refl _) _).setCell (Nat.le_refl _) _⟩
      have hfar : FarV (w.heap.size + 1) (.slice (some ⟨w.heap.size + 1, 0, none⟩) N N) := Nat.le_refl _
      exact ((HZ3.out.agr.intsAt Hl.out hnn).setFar hfar (by simp) _).setFar hfar (by simp) _
end Go.Proofs.Ytkmfhnjadpdkeaa
