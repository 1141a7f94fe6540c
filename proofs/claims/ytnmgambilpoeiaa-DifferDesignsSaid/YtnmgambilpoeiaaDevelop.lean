/-
  Contract: differ.Develop, of a set. No condition.
-/
import Derived.BigRegion
import Derived.Deep.AppendLies
import Derived.Deep.OwnRows
import Derived.Deep.RegionLaw
import Derived.Test.YtnmgambilpoeiaaChanged
import Derived.Test.YtnmgambilpoeiaaDCheck
import Derived.Test.YtnmgambilpoeiaaDesRel
import Derived.Test.YtnmgambilpoeiaaDevLaw
namespace Go.Proofs.Ytnmgambilpoeiaa
open Go.RowKit

set_option maxRecDepth 100000 in
theorem step_list {ops : Array Oper} {o : Oper} {a : Act} {w : World} {K : Act → World → Prop} {Q : Exit → Act → World → Prop} {E : Prop} (hgd : o.guard = none) (s x : Operand)
    (ho : o.op = .call { callee := .builtin .append, args := #[s, x], argTypes := #[46, 46] }) {base : Nat} {v : Value} {xss : List (List Int)} (hs : a.eval s = v) (hown : OwnL w base v xss)
    (g : Nat) {y : Value} {ys : List Int} (hy : Own w base 3 y ys) (hx : a.eval x = .slice (some ⟨g, 0, none⟩) 1 1) (hc : w.cell? ⟨g, 0, none⟩ = some y) (hl : xss.length < 1000000000) (hb : base ≤ w.heap.size)
    (h : ∀ v' w', OwnL w' base v' (xss ++ [ys]) → w.grownBy w' v.ownBlock → K (a.put o.dst v') w') : if Region.wanted o (yielded ops a.tmps) = true then Oper.wp Try.prog o a w K Q else E := by
  obtain ⟨i0, hi0, hz0, hz1, hz2⟩ := info_parts info_list
  obtain ⟨V, h1, h2⟩ := hown
  refine step_append_lies w hgd s x 46 ho base 22 i0 _ 1 24 Try.underlying46 hi0 hz0 hz1 hz2 rfl (by omega) v xss.length _ hs h1 ⟨g, 0, none⟩ 1 1 [y] hx rfl (news_one hc) (fun u hu => by simp at hu; subst hu; exact own_one hy)
    (by omega) (by unfold maxLen; omega) (by omega) hb _ rfl ?_
  intro gg cap w' q1 q2 _ _
  have kept : ∀ {u : Value} {zs : List Int}, Own w base 3 u zs → Own w' base 3 u zs := fun hu => World.ownsRow.kept hu q2 (own_apart (by decide) hu h1)
  refine h _ w' ⟨fun i => if i < xss.length then V i else y, ?_, fun i hi => ?_⟩ q2
  · rw [List.length_append]
    have e : (List.range (xss.length + [ys].length)).map (fun i => if i < xss.length then V i else y) = (List.range xss.length).map V ++ [y] := by
      rw [List.length_singleton, List.range_succ, List.map_append]
      congr 1
      · apply List.map_congr_left
        intro i hi
        rw [if_pos (List.mem_range.1 hi)]
      · simp
    rw [e]; exact q1
  · rw [List.length_append, List.length_singleton] at hi
    rw [rx_snoc]
    by_cases e : i < xss.length
    · rw [if_pos e]; simp only [if_pos e]; exact kept (h2 i e)
    · rw [if_neg e, if_pos (by omega)]; simp only [if_neg e]; exact kept hy

/-- The result, still empty; what is built (block bo). -/
structure DevRel (w wr : World) (bo : Nat) (p : Int) (v : Value) (yss : List (List Int)) : Prop where
  res : Arr wr w.heap.size 2 (fun j => if j = 0 then .int .i64 0 else .slice none 0 0)
  out : Arr wr bo 2 (fun j => if j = 0 then .int .i64 p else v)
  own : OwnL wr (bo + 1) v yss
  lo : w.heap.size < bo
  bel : Below w.heap.size w wr
theorem DevRel.next {w wr w' : World} {bo : Nat} {p : Int} {v : Value} {yss : List (List Int)} (h : DevRel w wr bo p v yss) (hb : Below wr.heap.size wr w') : DevRel w w' bo p v yss :=
  ⟨h.res.below hb, h.out.below hb, h.own.below hb, h.lo, belowTrans h.bel hb⟩
theorem DevRel.size {w wr : World} {bo : Nat} {p : Int} {v : Value} {yss : List (List Int)} (h : DevRel w wr bo p v yss) : bo + 1 ≤ wr.heap.size := h.out.lt
theorem DevRel.push {w w1 w2 : World} {bo : Nat} {p : Int} {v v' : Value} {yss zss : List (List Int)} (h : DevRel w w1 bo p v yss) (hO : OwnL w2 (bo + 1) v' zss) (hg : w1.grownBy w2 v.ownBlock) :
    DevRel w (w2.setCell ⟨bo, 1, none⟩ v') bo p v' zss := by
  have hlo := h.lo
  have hbl : ∀ k, v.ownBlock = some k → bo + 1 ≤ k := fun k hk => (h.own.block k hk).1
  have hsz := h.size
  have kp : ∀ {b : Nat} {f : Nat → Value}, b < bo + 1 → Arr w1 b 2 f → Arr w2 b 2 f := fun {b f} hb hA =>
    hA.kept (fun o => hg.cell_far ⟨b, o, none⟩ (Nat.lt_of_lt_of_le hb hsz) (fun e => by have := hbl b e.symm; omega)) (fun o => hg.frozen_far ⟨b, o, none⟩ (Nat.lt_of_lt_of_le hb hsz) (fun e => by have := hbl b e.symm; omega)) hg.size
  refine ⟨(kp (by omega) h.res).setOther (by show bo ≠ _; omega) _, ?_, hO.setFar (by show bo < _; omega) _, hlo, (h.bel.grown hg (by omega) (fun k hk => by have := hbl k hk; omega)).setCell (by show _ ≤ bo; omega) _⟩
  refine ((kp (by omega) h.out).set (show 1 < 2 by omega) v').congr fun j hj => ?_
  rcases j with _ | _ | j
  · rfl
  · rfl
  · omega
theorem DevRel.spot {w w1 w2 : World} {bo : Nat} {p : Int} {v : Value} {yss : List (List Int)} (h : DevRel w w1 bo p v yss) (hg : w1.grownBy w2 v.ownBlock) :
    w2.cell? ⟨bo, 1, none⟩ = some v ∧ w2.frozen? ⟨bo, 1, none⟩ = false := by
  have hbl : ∀ k, v.ownBlock = some k → bo + 1 ≤ k := fun k hk => (h.own.block k hk).1
  have hsz := h.size
  have hne : some bo ≠ v.ownBlock := fun e => by have := hbl bo e.symm; omega
  exact ⟨(hg.cell_far ⟨bo, 1, none⟩ hsz hne).trans (h.out.cell (show 1 < 2 by omega)), (hg.frozen_far ⟨bo, 1, none⟩ hsz hne).trans (h.out.free (show 1 < 2 by omega))⟩
theorem DevRel.late {w w1 : World} {t : TypeId} (hb : Below (w.alloc (.cells #[.int .i64 0, .slice none 0 0] t)).heap.size (w.alloc (.cells #[.int .i64 0, .slice none 0 0] t)) w1) (p : Int) :
    DevRel w (w1.alloc (.cells #[.int .i64 p, .slice none 0 0] t)) w1.heap.size p (.slice none 0 0) [] := by
  have hz := hb.size
  simp only [World.size_alloc] at hz
  exact ⟨((pair_new w _ _ _ _ rfl).below hb).alloc _, pair_new _ _ _ _ _ rfl, ownL_nil _ _, by omega,
    (((below_box w _).trans (hb.mono (by simp))).trans ((below_box _ _).mono (by omega)))⟩
/-- What is handed back. -/
def DevPost (n : Int) (yss : List (List Int)) (w : World) (e : Ending) (w' : World) : Prop := ∃ v, e = .returned (.tuple #[.agg #[.int .i64 n, v], .int .i64 0]) ∧ RowsAt w' v yss ∧ Below w.heap.size w w'
theorem DevRel.last {w wr : World} {bo : Nat} {p : Int} {v : Value} {yss : List (List Int)} (h : DevRel w wr bo p v yss) :
    Arr ((wr.setCell ⟨w.heap.size, 0, none⟩ (.int .i64 p)).setCell ⟨w.heap.size, 1, none⟩ v) w.heap.size 2 (fun j => if j = 0 then .int .i64 p else v) :=
  ((h.res.set (show 0 < 2 by omega) (.int .i64 p)).set (show 1 < 2 by omega) v).congr fun j hj => by
    rcases j with _ | _ | j
    · rfl
    · rfl
    · omega
theorem DevRel.done {w wr : World} {bo : Nat} {p : Int} {v : Value} {yss : List (List Int)} (h : DevRel w wr bo p v yss) (hl : yss.length ≤ 1000000000) (hr : ∀ i, i < yss.length → (rx yss i).length ≤ 1000000000) :
    DevPost p yss w (.returned (.tuple #[.agg ((List.range 2).map (fun j => if j = 0 then Value.int .i64 p else v)).toArray, .int .i64 0])) ((wr.setCell ⟨w.heap.size, 0, none⟩ (.int .i64 p)).setCell ⟨w.heap.size, 1, none⟩ v) := by
  have hlo := h.lo
  exact ⟨v, rfl, ((h.own.setFar (by show w.heap.size < _; omega) _).setFar (by show w.heap.size < _; omega) _).rowsAt hl hr, (h.bel.setCell (by show _ ≤ w.heap.size; omega) _).setCell (by show _ ≤ w.heap.size; omega) _⟩

set_option maxRecDepth 100000 in
set_option maxHeartbeats 4000000 in
theorem develop_any (n : Nat) (v : Value) (xs : List Int) (w : World) (h : IntsAt w v xs) (hS : IsSet n xs) (h40 : n ≤ 40) :
    Calls Try.prog 29 #[.int .i64 (n : Nat), v] w (DevPost n (devL n xs) w) := by
  have HV := Lib.hid h
  have hn1 := hS.lo
  have hl : (xs.length : Int) ≤ n := inc_len hS.rng hS.inc (by omega)
  have HBx := Lib.hid (below_box w (.cells #[.int .i64 0, .slice none 0 0] 48))
  have HC : Hid (Calls Try.prog 24 #[.int .i64 (n : Nat), v] (w.alloc (.cells #[.int .i64 0, .slice none 0 0] 48)) fun e w' => e = .returned (.int .i64 0) ∧ Below (w.alloc (.cells #[.int .i64 0, .slice none 0 0] 48)).heap.size (w.alloc (.cells #[.int .i64 0, .slice none 0 0] 48)) w') := by
    have := dcheck_any n v xs _ (HV.out.below HBx.out)
    rw [hS.fault] at this; exact this
  have HCh : Hid (∀ (s : Nat) w1, s ≤ 200 → IntsAt w1 v xs → Calls Try.prog 44 #[.int .i64 (n : Nat), v, .int .i64 1, .int .i64 (s : Nat)] w1 fun e w' => ∃ u, e = .returned u ∧ Own w' w1.heap.size 3 u (movL n 1 s xs) ∧ Below w1.heap.size w1 w') := fun s w1 hs hv => changed_any n 1 s v xs w1 hv hS (by omega) hs
  obtain ⟨a, c, rfl, _⟩ := h
  clear hS
  go_enter Try.func29, Try.ntmps29
  go_wp2_with fail
  refine (HC.out).mono ?_
  rintro e w1 ⟨rfl, hb⟩
  have HR0 := Lib.hid (DevRel.late hb n)
  have hzs := hb.size
  simp only [World.size_alloc] at hzs
  clear hb HC
  go_wp2_with fail
  go_loopw [22] (fun s wr => ∃ (k : Nat) (u : Value), k ≤ n ∧ s = .int .i64 k ∧ DevRel w wr w1.heap.size n u (rowsTo (fun i => movL n 1 i xs) k)) (fun s _ => n - (intOf s).toNat)
  case atStart => exact ⟨0, _, by omega, rfl, HR0.out⟩
  case round =>
    clear HR0
    obtain ⟨k, u, hk, rfl, hR⟩ := hrel
    obtain ⟨ua, uc, rfl⟩ := hR.own.shape
    have hkl := rowsTo_len (fun i => movL n 1 i xs) k
    rw [hkl] at hR
    have HR := Lib.hid hR
    have o0 := hR.out.cell (show 0 < 2 by omega); have o1 := hR.out.cell (show 1 < 2 by omega); have o2 := hR.out.free (show 1 < 2 by omega)
    have r0 := hR.res.cell (show 0 < 2 by omega); have r1 := hR.res.cell (show 1 < 2 by omega)
    have f0 := hR.res.free (show 0 < 2 by omega); have f1 := hR.res.free (show 1 < 2 by omega)
    have hsz := hR.size
    clear hR
    by_cases hlt : k < n
    · have hI := HV.out.below HR.out.bel
      have HI := Lib.hid hI
      have HRD : Hid (∀ m, DevRel w (wr.drewN m) w1.heap.size n (.slice ua k uc) (rowsTo (fun i => movL n 1 i xs) k)) := fun m => HR.out.next (below_D _ _)
      clear hI r0 r1 f0 f1 o0 o2
      go_wp2_with fail
      go_region_law (first
        | (refine step_list (by rfl) _ _ (by rfl) (by rfl) (HR2.out.own.below (below_box _ _)) w2.heap.size (HO2.out.alloc _) (by rfl) (World.cell?_alloc_new w2 _ _ 0) (by omega) (by simp; omega) ?_; intro v' w3 hown1 hgrow; obtain ⟨va, vc, rfl⟩ := hown1.shape; have HR3 := Lib.hid ((HR2.out.next (below_box _ _)).push hown1 hgrow); obtain ⟨y1, y2⟩ := (HR2.out.next (below_box _ _)).spot hgrow; clear hown1 hgrow)
        | (go_simp; refine (HCh.out k _ (by omega) (by exact HI.out)).mono ?_; rintro e w2 ⟨u2, rfl, hown, hb⟩; obtain ⟨ra, rl, rc, rfl⟩ := hown.shape; have HR2 : Hid (DevRel w w2 w1.heap.size n (.slice ua k uc) (rowsTo (fun i => movL n 1 i xs) k)) := (by first | exact HR.out.next hb | exact (HRD.out 1).next hb | exact (HRD.out 2).next hb | exact (HRD.out 3).next hb | exact (HRD.out 4).next hb | exact (HRD.out 5).next hb | exact (HRD.out 6).next hb); have HO2 := Lib.hid (hown.base hsz); have o1' := HR2.out.out.cell (show 1 < 2 by omega); have hsz2 := HR2.out.size; have hne2 : ¬ w1.heap.size = w2.heap.size := (by omega); have o3' := (World.cell?_alloc_old w2 (.cells #[.slice ra rl rc] 22) ⟨w1.heap.size, 1, none⟩ hne2).trans o1'; clear hown hb))
      all_goals
        rw [List.length_append, hkl] at HR3
        go_wp2_with fail
        go_roundw
        case rel => exact ⟨k + 1, _, by omega, by go_num, HR3.out⟩
        case measure => simp [intOf]; omega
    · obtain rfl : k = n := by omega
      go_wp2_with fail
      exact bodyPost_ret (results_pairT (p := 4) (u := 5) rfl HR.out.last Try.underlying48 rfl (by kernel_rfl) rfl) rfl
        (HR.out.done (by rw [rowsTo_len]; omega) (fun i hi => by rw [rowsTo_len] at hi; rw [rowsTo_rx _ hi, mov_len]; omega))
end Go.Proofs.Ytnmgambilpoeiaa
