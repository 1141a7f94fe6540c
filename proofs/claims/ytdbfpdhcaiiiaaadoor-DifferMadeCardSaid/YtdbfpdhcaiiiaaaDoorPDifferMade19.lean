/-
  Contract: field.open. No condition but that the table of primes reads as it is laid.
-/
import Derived.Test.YtdbfpdhcaiiiaaaDoorPDifferMade18
import Derived.Test.YtdbfpdhcaiiiaaaDoorPDifferMade13
import Derived.Test.YtdbfpdhcaiiiaaaDoorPDifferMade2
namespace Go.Proofs.YtdbfpdhcaiiiaaaDoor
open Go.RowKit

/-- Four cells. -/
def four (a b c d : Value) (j : Nat) : Value := if j = 0 then a else if j = 1 then b else if j = 2 then c else d
theorem four_row (a b c d : Value) : ((List.range 4).map (four a b c d)).toArray = #[a, b, c, d] := rfl
theorem four_new (w : World) (a b c d : Value) (t : TypeId) : Arr (w.alloc (.cells #[a, b, c, d] t)) w.heap.size 4 (four a b c d) := by
  refine ⟨by simp, fun j hj => ⟨?_, World.frozen?_alloc_new _ _ _ _⟩⟩
  rw [World.cell?_alloc_new]
  rcases j with _ | _ | _ | _ | j
  · rfl
  · rfl
  · rfl
  · rfl
  · omega
def three (a b c : Value) (j : Nat) : Value := if j = 0 then a else if j = 1 then b else c
theorem three_new (w : World) (a b c : Value) (t : TypeId) : Arr (w.alloc (.cells #[a, b, c] t)) w.heap.size 3 (three a b c) := by
  refine ⟨by simp, fun j hj => ⟨?_, World.frozen?_alloc_new _ _ _ _⟩⟩
  rw [World.cell?_alloc_new]
  rcases j with _ | _ | _ | j
  · rfl
  · rfl
  · rfl
  · omega
theorem four_set {w : World} {b : Nat} {a0 a1 a2 a3 : Value} (h : Arr w b 4 (four a0 a1 a2 a3)) (x0 x1 x2 x3 : Value) :
    Arr ((((w.setCell ⟨b, 0, none⟩ x0).setCell ⟨b, 1, none⟩ x1).setCell ⟨b, 2, none⟩ x2).setCell ⟨b, 3, none⟩ x3) b 4 (four x0 x1 x2 x3) := by
  refine Arr.congr ((((h.set (show 0 < 4 by omega) x0).set (show 1 < 4 by omega) x1).set (show 2 < 4 by omega) x2).set (show 3 < 4 by omega) x3) fun j hj => ?_
  have : j = 0 ∨ j = 1 ∨ j = 2 ∨ j = 3 := by omega
  rcases this with rfl | rfl | rfl | rfl <;> rfl

/-- The room of a field; of none, the empty one. -/
def roomV (p d : Int) (v : Value) (q : Nat) : Value := .agg #[.int .i64 p, .int .i64 d, v, .int .i64 (q : Nat)]
def noRoom : Value := .agg #[.int .i64 0, .int .i64 0, .slice none 0 0, .int .i64 0]
def roomOf (p d : Int) (v : Value) (low : List Int) : Value := if fieldFault p d low = 0 then roomV p d v (ordQ p d) else noRoom
def OpenPost (p d : Int) (v : Value) (low : List Int) (w : World) (e : Ending) (w' : World) : Prop :=
  e = .returned (.tuple #[roomOf p d v low, .int .i64 (fieldFault p d low)]) ∧ Below w.heap.size w w'
theorem open_end {p d : Int} {v : Value} {low : List Int} {w w' : World} {f : Int} (h : fieldFault p d low = f) (hf : f ≠ 0) (hb : Below w.heap.size w w') : OpenPost p d v low w (.returned (.tuple #[noRoom, .int .i64 f])) w' := by
  refine ⟨?_, hb⟩
  unfold roomOf
  rw [h, if_neg hf]

/-- What open holds behind k digits. -/
structure OpRel (w wr : World) (p d : Int) (v : Value) (low : List Int) (k : Nat) : Prop where
  bel : Below w.heap.size w wr
  fb : Arr wr w.heap.size 3 (three (.int .i64 p) (.int .i64 d) v)
  rb : Arr wr (w.heap.size + 1) 4 (four (.int .i64 0) (.int .i64 0) (.slice none 0 0) (.int .i64 0))
  ar : PolyAt wr (w.heap.size + 2) (fun j => if j < k then lF low j else 0)
theorem op_start (w : World) (p d : Int) (v : Value) (low : List Int) :
    OpRel w (((w.alloc (.cells #[.int .i64 p, .int .i64 d, v] 24)).alloc (.cells #[.int .i64 0, .int .i64 0, .slice none 0 0, .int .i64 0] 72)).alloc (.cells polyZ 89)) p d v low 0 := by
  have hr := four_new (w.alloc (.cells #[.int .i64 p, .int .i64 d, v] 24)) (.int .i64 0) (.int .i64 0) (.slice none 0 0) (.int .i64 0) 72
  rw [World.size_alloc] at hr
  have ha := poly_new ((w.alloc (.cells #[.int .i64 p, .int .i64 d, v] 24)).alloc (.cells #[.int .i64 0, .int .i64 0, .slice none 0 0, .int .i64 0] 72))
  rw [World.size_alloc, World.size_alloc] at ha
  exact ⟨belowTrans (belowTrans (below_box _ _) (below_box _ _)) (below_box _ _), Arr.alloc (Arr.alloc (three_new w _ _ _ _) _) _, Arr.alloc hr _, PolyAt.congr ha fun j _ => by rw [if_neg (by omega)]⟩
theorem OpRel.put {w wr : World} {p d : Int} {v : Value} {low : List Int} {k : Nat} (h : OpRel w wr p d v low k) (hk : k < 7) {x : Int} (hx : x = ((lF low k : Nat) : Int)) :
    OpRel w (wr.setCell ⟨w.heap.size + 2, k, none⟩ (.int .i64 x)) p d v low (k + 1) := by
  subst hx
  refine ⟨h.bel.setCell (by show _ ≤ w.heap.size + 2; omega) _, Arr.setOther h.fb (by simp) _, Arr.setOther h.rb (by simp) _, PolyAt.congr (h.ar.set hk _) fun j _ => ?_⟩
  by_cases e : j = k
  · subst e; rw [if_pos rfl, if_pos (by omega)]
  · rw [if_neg e]
    by_cases e2 : j < k
    · rw [if_pos e2, if_pos (by omega)]
    · rw [if_neg e2, if_neg (by omega)]
theorem OpRel.step {w wr W : World} {p d : Int} {v : Value} {low : List Int} {k : Nat} (h : OpRel w wr p d v low k) (hb : Below wr.heap.size wr W) : OpRel w W p d v low k :=
  ⟨belowTrans h.bel hb, Arr.below h.fb hb, Arr.below h.rb hb, Arr.below h.ar hb⟩
theorem OpRel.drewN {w wr : World} {p d : Int} {v : Value} {low : List Int} {k : Nat} (h : OpRel w wr p d v low k) (m : Nat) : OpRel w (wr.drewN m) p d v low k := h.step (below_D _ _)
theorem OpRel.cells {w wr : World} {p d : Int} {v : Value} {low : List Int} {k : Nat} (h : OpRel w wr p d v low k) :
    (wr.cell? ⟨w.heap.size + 1, 0, none⟩ = some (.int .i64 0) ∧ wr.cell? ⟨w.heap.size + 1, 1, none⟩ = some (.int .i64 0) ∧ wr.cell? ⟨w.heap.size + 1, 2, none⟩ = some (.slice none 0 0) ∧ wr.cell? ⟨w.heap.size + 1, 3, none⟩ = some (.int .i64 0)) ∧
    (wr.frozen? ⟨w.heap.size + 1, 0, none⟩ = false ∧ wr.frozen? ⟨w.heap.size + 1, 1, none⟩ = false ∧ wr.frozen? ⟨w.heap.size + 1, 2, none⟩ = false ∧ wr.frozen? ⟨w.heap.size + 1, 3, none⟩ = false) :=
  ⟨⟨h.rb.cell (show 0 < 4 by omega), h.rb.cell (show 1 < 4 by omega), h.rb.cell (show 2 < 4 by omega), h.rb.cell (show 3 < 4 by omega)⟩, ⟨h.rb.free (show 0 < 4 by omega), h.rb.free (show 1 < 4 by omega), h.rb.free (show 2 < 4 by omega), h.rb.free (show 3 < 4 by omega)⟩⟩
theorem OpRel.fcells {w wr : World} {p d : Int} {v : Value} {low : List Int} {k : Nat} (h : OpRel w wr p d v low k) :
    wr.cell? ⟨w.heap.size, 0, none⟩ = some (.int .i64 p) ∧ wr.cell? ⟨w.heap.size, 1, none⟩ = some (.int .i64 d) ∧ wr.cell? ⟨w.heap.size, 2, none⟩ = some v :=
  ⟨h.fb.cell (show 0 < 3 by omega), h.fb.cell (show 1 < 3 by omega), h.fb.cell (show 2 < 3 by omega)⟩
theorem open_good {p d : Int} {v : Value} {low : List Int} {w w' : World} (h : fieldFault p d low = 0) (hb : Below w.heap.size w w') :
    OpenPost p d v low w (.returned (.tuple #[roomV p d v (ordQ p d), .int .i64 0])) w' := by
  refine ⟨?_, hb⟩
  unfold roomOf
  rw [h, if_pos rfl]
theorem OpRel.fin {w wr : World} {p d : Int} {v : Value} {low : List Int} {k : Nat} (h : OpRel w wr p d v low k) (x0 x1 x2 x3 : Value) :
    Below w.heap.size w ((((wr.setCell ⟨w.heap.size + 1, 0, none⟩ x0).setCell ⟨w.heap.size + 1, 1, none⟩ x1).setCell ⟨w.heap.size + 1, 2, none⟩ x2).setCell ⟨w.heap.size + 1, 3, none⟩ x3) :=
  (((h.bel.setCell (Nat.le_succ _) _).setCell (Nat.le_succ _) _).setCell (Nat.le_succ _) _).setCell (Nat.le_succ _) _
theorem outP_no {p : Nat} {x : Int} (h1 : decide (x < 0) = false) (h2 : decide ((p : Int) ≤ x) = false) : outP p x = false ∧ 0 ≤ x ∧ x < p := by
  unfold outP; simp at h1 h2 ⊢; omega
theorem any_take_hit {q : Int → Bool} {xs : List Int} {k : Nat} (hk : k < xs.length) (h : q (ix xs k) = true) : xs.any q = true := by
  rw [List.any_eq_true]; exact ⟨_, ix_mem hk, h⟩

set_option maxRecDepth 100000 in
set_option maxHeartbeats 2000000 in
theorem open_any (p d : Int) (v : Value) (low : List Int) (w : World) (h : IntsAt w v low) (hP : PrimesAt w) :
    Calls Tryd.prog 63 #[.agg #[.int .i64 p, .int .i64 d, v]] w (OpenPost p d v low w) := by
  obtain ⟨a, c, rfl, h1, h2, _, h3⟩ := id h
  have HX := Lib.hid h3
  have HI := Lib.hid h
  have HB2 := Lib.hid (belowTrans (below_box w (.cells #[.int .i64 p, .int .i64 d, .slice a low.length c] 24)) (below_box _ (.cells #[.int .i64 0, .int .i64 0, .slice none 0 0, .int .i64 0] 72)))
  have HO := Lib.hid (order_any p d _ (hP.below HB2.out))
  have hr := four_new (w.alloc (.cells #[.int .i64 p, .int .i64 d, .slice a low.length c] 24)) (.int .i64 0) (.int .i64 0) (.slice none 0 0) (.int .i64 0) 72
  rw [World.size_alloc] at hr
  have HR := Lib.hid hr
  clear h3 h hP hr
  by_cases hq : ordQ p d = 0
  · have HF : Hid (fieldFault p d low = 1) := by show _ = _; unfold fieldFault; rw [if_pos hq]
    have hb : (ordQ p d != 0) = false := by simp [hq]
    unfold OrdPost at HO
    rw [hb] at HO
    clear hb hq
    go_enter Tryd.func63, Tryd.ntmps63
    go_wp2_with (go_at_call 83; refine (HO.out).mono ?_; rintro e w' ⟨rfl, rfl⟩)
    exact bodyPost_ret (results_arrT (p := 2) (u := 3) rfl HR.out Tryd.underlying72 rfl (by kernel_rfl) rfl) rfl (open_end HF.out (by decide) HB2.out)
  · have hb : (ordQ p d != 0) = true := by simp [hq]
    unfold OrdPost at HO
    rw [hb] at HO
    obtain ⟨a1, a2, a3, a4, a5⟩ := ordQ_of hq
    have hpr := isPB_range a1
    obtain ⟨p, rfl⟩ := Int.eq_ofNat_of_zero_le (show 0 ≤ p by omega)
    obtain ⟨d, rfl⟩ := Int.eq_ofNat_of_zero_le (show 0 ≤ d by omega)
    rw [Int.toNat_natCast, Int.toNat_natCast] at a4
    have hp2 : 2 ≤ p := by omega
    have hp61 : p ≤ 61 := by omega
    have hd1 : 1 ≤ d := by omega
    have hd6 : d ≤ 6 := by omega
    have HQ := Lib.hid hq
    have HA4 := Lib.hid a4
    clear hb hq a1 a2 a3 a4 a5 hpr
    by_cases hl : low.length = d
    · have hne : (((low.length : Nat) : Int) != ((d : Nat) : Int)) = false := by simp [hl]
      have HL := Lib.hid hl
      have HF0 : Hid (fieldFault p d low = if low.any (outP p) then 1 else if irrB p d (lF low) then 0 else 4) := by
        show _ = _; unfold fieldFault; rw [if_neg HQ.out, if_neg (by simp [hl])]; simp
      have HS := Lib.hid (op_start w p d (.slice a low.length c) low)
      clear hl
      go_enter Tryd.func63, Tryd.ntmps63
      go_wp2_with (go_at_call 83; refine (HO.out).mono ?_; rintro e w' ⟨rfl, rfl⟩)
      go_loopw [7, 8, 30] (fun _ _ u wr => ∃ k : Nat, k ≤ low.length ∧ u = .int .i64 k ∧ (low.take k).any (outP p) = false ∧ OpRel w wr p d (.slice a low.length c) low k) (fun _ _ u _ => low.length - (intOf u).toNat)
      case atStart => exact ⟨0, by omega, rfl, by simp, HS.out⟩
      case round =>
        clear HS HR
        obtain ⟨k, hk, rfl, hno, hR⟩ := hrel
        have HR := Lib.hid hR; have HN := Lib.hid hno
        clear hR hno
        have f0 : wr.cell? ⟨w.heap.size, 0, none⟩ = some (.int .i64 (p : Int)) := HR.out.fb.cell (show 0 < 3 by omega)
        have f1 : wr.cell? ⟨w.heap.size, 1, none⟩ = some (.int .i64 (d : Int)) := HR.out.fb.cell (show 1 < 3 by omega)
        have f2 : wr.cell? ⟨w.heap.size, 2, none⟩ = some (.slice a low.length c) := HR.out.fb.cell (show 2 < 3 by omega)
        by_cases hlt : k < low.length
        · obtain ⟨b, o, rfl, hb, hc⟩ := HX.out k hlt
          have hcell := hc k hlt
          rw [← HR.out.bel.cell (p := ⟨b, o + k, none⟩) hb] at hcell
          clear hc
          have hk7 : k < 7 := by have := HL.out; omega
          have hk7i : (k : Int) < 7 := by omega
          obtain ⟨c1, c2⟩ := HR.out.ar.old hk7
          cases d1 : decide (ix low k < 0)
          · cases d2 : decide ((p : Int) ≤ ix low k)
            · obtain ⟨o1, o2, o3⟩ := outP_no d1 d2
              have HN2 : Hid ((low.take (k + 1)).any (outP p) = false) := by
                show _ = _; rw [take_succ_ix hlt, List.any_append, HN.out]; simp [o1]
              have HR2 := Lib.hid (HR.out.put hk7 (x := ix low k) (by unfold lF; omega))
              clear o1
              go_wp2_with fail
              go_roundw
              case rel => exact ⟨k + 1, by omega, by go_num, HN2.out, HR2.out⟩
              case measure => simp [intOf]; omega
            · have HF : Hid (fieldFault p d low = 1) := by show _ = _; rw [HF0.out, any_take_hit (q := outP p) hlt (by unfold outP; simp at d2 ⊢; omega)]; rfl
              obtain ⟨⟨r0, r1, r2, r3⟩, ⟨g0, g1, g2, g3⟩⟩ := HR.out.cells
              go_wp2_with fail
              exact bodyPost_ret (results_arrT (p := 2) (u := 3) rfl (four_set HR.out.rb _ _ _ _) Tryd.underlying72 rfl (by kernel_rfl) rfl) rfl (open_end HF.out (by decide) (HR.out.fin _ _ _ _))
          · have HF : Hid (fieldFault p d low = 1) := by show _ = _; rw [HF0.out, any_take_hit (q := outP p) hlt (by unfold outP; simp at d1 ⊢; omega)]; rfl
            obtain ⟨⟨r0, r1, r2, r3⟩, ⟨g0, g1, g2, g3⟩⟩ := HR.out.cells
            go_wp2_with fail
            exact bodyPost_ret (results_arrT (p := 2) (u := 3) rfl (four_set HR.out.rb _ _ _ _) Tryd.underlying72 rfl (by kernel_rfl) rfl) rfl (open_end HF.out (by decide) (HR.out.fin _ _ _ _))
        · obtain rfl : k = low.length := by omega
          have HA : Hid (low.any (outP p) = false) := by show _ = _; have := HN.out; rw [List.take_length] at this; exact this
          have hpa : PolyAt wr (w.heap.size + 2) (lF low) := PolyAt.congr HR.out.ar fun j _ => by
            by_cases e : j < low.length
            · rw [if_pos e]
            · rw [if_neg e]; unfold lF ix; rw [List.getD_eq_getElem?_getD, List.getElem?_eq_none (by omega)]; rfl
          have HPA := Lib.hid hpa
          have hlo : ∀ j, lF low j < p := fun j => by
            by_cases e : j < low.length
            · have := List.any_eq_false.1 HA.out _ (ix_mem e)
              unfold outP at this; unfold lF
              simp at this; omega
            · unfold lF ix; rw [List.getD_eq_getElem?_getD, List.getElem?_eq_none (by omega)]; simp; omega
          have hir := irreducible_any p d (lF low) wr hp2 (by omega) hd1 hd6 HA4.out hlo (fun j hj => by unfold lF ix; rw [List.getD_eq_getElem?_getD, List.getElem?_eq_none (by have := HL.out; omega)]; rfl)
          have HIr := Lib.hid hir
          clear hpa hlo hir
          cases ei : irrB p d (lF low)
          · have HF : Hid (fieldFault p d low = 4) := by show _ = _; rw [HF0.out, HA.out, ei]; rfl
            rw [ei] at HIr
            clear ei
            go_wp2_with (first | (with_reducible refine wpList_load_tab rfl 89 _ rfl _ rfl HPA.out Tryd.underlying89 rfl (by kernel_rfl) ?_) | (go_at_call 84; refine (HIr.out).mono ?_; rintro e w2 ⟨rfl, hb2⟩; have HR2 := Lib.hid (HR.out.step hb2); obtain ⟨⟨r0, r1, r2, r3⟩, ⟨g0, g1, g2, g3⟩⟩ := HR2.out.cells; clear hb2))
            exact bodyPost_ret (results_arrT (p := 2) (u := 3) rfl (four_set HR2.out.rb _ _ _ _) Tryd.underlying72 rfl (by kernel_rfl) rfl) rfl (open_end HF.out (by decide) (HR2.out.fin _ _ _ _))
          · have HF : Hid (fieldFault p d low = 0) := by show _ = _; rw [HF0.out, HA.out, ei]; rfl
            rw [ei] at HIr
            clear ei
            go_wp2_with (first | (with_reducible refine wpList_load_tab rfl 89 _ rfl _ rfl HPA.out Tryd.underlying89 rfl (by kernel_rfl) ?_) | (go_at_call 84; refine (HIr.out).mono ?_; rintro e w2 ⟨rfl, hb2⟩; have HR2 := Lib.hid (HR.out.step hb2); obtain ⟨⟨r0, r1, r2, r3⟩, ⟨g0, g1, g2, g3⟩⟩ := HR2.out.cells; obtain ⟨k0, k1, k2⟩ := HR2.out.fcells; clear hb2))
            exact bodyPost_ret (results_arrT (p := 2) (u := 3) rfl (four_set HR2.out.rb _ _ _ _) Tryd.underlying72 rfl (by kernel_rfl) rfl) rfl (open_good HF.out (HR2.out.fin _ _ _ _))
    · have hne : (((low.length : Nat) : Int) != ((d : Nat) : Int)) = true := by simp; omega
      have HF : Hid (fieldFault p d low = 2) := by show _ = _; unfold fieldFault; rw [if_neg HQ.out, if_pos (by omega)]
      clear hl
      go_enter Tryd.func63, Tryd.ntmps63
      go_wp2_with (go_at_call 83; refine (HO.out).mono ?_; rintro e w' ⟨rfl, rfl⟩)
      exact bodyPost_ret (results_arrT (p := 2) (u := 3) rfl HR.out Tryd.underlying72 rfl (by kernel_rfl) rfl) rfl (open_end HF.out (by decide) HB2.out)
end Go.Proofs.YtdbfpdhcaiiiaaaDoor
