/-
  Contract: field.with, a field and its elements. No condition but that the table of primes reads as it is laid.
-/
import Derived.Test.YtdbfpdhcaiiiaaaDoorPDifferMade27
namespace Go.Proofs.YtdbfpdhcaiiiaaaDoor
open Go.RowKit

/-- Is a number no element of so many? -/
def outQ (q : Nat) (x : Int) : Bool := decide (x < 0 ∨ (q : Int) ≤ x)
/-- What is wrong with a field and elements. -/
def withFault (p d : Int) (low es : List Int) : Int := if fieldFault p d low ≠ 0 then fieldFault p d low else if es.any (outQ (ordQ p d)) then 1 else 0
def withRoom (p d : Int) (v : Value) (low es : List Int) : Value := if withFault p d low es = 0 then roomV p d v (ordQ p d) else noRoom
def WithPost (p d : Int) (v : Value) (low es : List Int) (w : World) (e : Ending) (w' : World) : Prop :=
  e = .returned (.tuple #[withRoom p d v low es, .int .i64 (withFault p d low es)]) ∧ Below w.heap.size w w'
theorem with_end {p d : Int} {v : Value} {low es : List Int} {w w' : World} {f : Int} (h : withFault p d low es = f) (hf : f ≠ 0) (hb : Below w.heap.size w w') : WithPost p d v low es w (.returned (.tuple #[noRoom, .int .i64 f])) w' := by
  refine ⟨?_, hb⟩
  unfold withRoom
  rw [h, if_neg hf]
theorem with_good {p d : Int} {v : Value} {low es : List Int} {w w' : World} (h : withFault p d low es = 0) (hb : Below w.heap.size w w') : WithPost p d v low es w (.returned (.tuple #[roomV p d v (ordQ p d), .int .i64 0])) w' := by
  refine ⟨?_, hb⟩
  unfold withRoom
  rw [h, if_pos rfl]
theorem outQ_no {q : Nat} {x : Int} (h1 : decide (x < 0) = false) (h2 : decide ((q : Int) ≤ x) = false) : outQ q x = false := by
  unfold outQ; simp at h1 h2 ⊢; omega

/-- What with holds: the field, the room that it hands back, the room that open gave. -/
structure WtRel (w wr : World) (p d : Int) (v : Value) (a0 a1 a2 a3 : Value) (br : Nat) (c0 c1 c2 c3 : Value) : Prop where
  bel : Below w.heap.size w wr
  fb : Arr wr w.heap.size 3 (three (.int .i64 p) (.int .i64 d) v)
  rb : Arr wr (w.heap.size + 1) 4 (four a0 a1 a2 a3)
  gb : Arr wr br 4 (four c0 c1 c2 c3)
  far : w.heap.size + 1 < br
theorem four_cells {w : World} {b : Nat} {a0 a1 a2 a3 : Value} (h : Arr w b 4 (four a0 a1 a2 a3)) :
    (w.cell? ⟨b, 0, none⟩ = some a0 ∧ w.cell? ⟨b, 1, none⟩ = some a1 ∧ w.cell? ⟨b, 2, none⟩ = some a2 ∧ w.cell? ⟨b, 3, none⟩ = some a3) ∧
    (w.frozen? ⟨b, 0, none⟩ = false ∧ w.frozen? ⟨b, 1, none⟩ = false ∧ w.frozen? ⟨b, 2, none⟩ = false ∧ w.frozen? ⟨b, 3, none⟩ = false) :=
  ⟨⟨h.cell (show 0 < 4 by omega), h.cell (show 1 < 4 by omega), h.cell (show 2 < 4 by omega), h.cell (show 3 < 4 by omega)⟩, ⟨h.free (show 0 < 4 by omega), h.free (show 1 < 4 by omega), h.free (show 2 < 4 by omega), h.free (show 3 < 4 by omega)⟩⟩
theorem below_four {w wr : World} {b : Nat} (h : Below w.heap.size w wr) (hb : w.heap.size ≤ b) (x0 x1 x2 x3 : Value) :
    Below w.heap.size w ((((wr.setCell ⟨b, 0, none⟩ x0).setCell ⟨b, 1, none⟩ x1).setCell ⟨b, 2, none⟩ x2).setCell ⟨b, 3, none⟩ x3) :=
  (((h.setCell hb _).setCell hb _).setCell hb _).setCell hb _

set_option maxRecDepth 100000 in
set_option maxHeartbeats 2000000 in
theorem with_any (p d : Int) (v u : Value) (low es : List Int) (w : World) (h : IntsAt w v low) (g : IntsAt w u es) (hP : PrimesAt w) :
    Calls Tryd.prog 48 #[.agg #[.int .i64 p, .int .i64 d, v], u] w (WithPost p d v low es w) := by
  obtain ⟨a, c, rfl, h1, h2, _, h3⟩ := id h
  obtain ⟨a', c', rfl, g1, g2, _, g3⟩ := id g
  have HX := Lib.hid g3
  have HB2 := Lib.hid (belowTrans (below_box w (.cells #[.int .i64 p, .int .i64 d, .slice a low.length c] 24)) (below_box _ (.cells #[.int .i64 0, .int .i64 0, .slice none 0 0, .int .i64 0] 72)))
  have HO := Lib.hid (open_any p d _ low _ (h.below HB2.out) (hP.below HB2.out))
  have hr := four_new (w.alloc (.cells #[.int .i64 p, .int .i64 d, .slice a low.length c] 24)) (.int .i64 0) (.int .i64 0) (.slice none 0 0) (.int .i64 0) 72
  rw [World.size_alloc] at hr
  have HR := Lib.hid hr
  clear h3 g3 h g hP hr
  unfold OpenPost roomOf at HO
  by_cases hf : fieldFault p d low = 0
  · have hF := field_of hf
    rw [if_pos hf] at HO
    have HF0 := Lib.hid hf
    have HW0 : Hid (withFault p d low es = if es.any (outQ (ordQ p d)) then 1 else 0) := by show _ = _; unfold withFault; rw [if_neg (by simp [hf])]
    have hq := (ordQ_of (p := p) (d := d) (by
      intro hc; unfold fieldFault at hf; rw [if_pos hc] at hf; exact absurd hf (by decide))).2.2.2
    have hq64 : ordQ p d ≤ 64 := by omega
    unfold roomV at HO
    rw [hf] at HO
    clear hf hF hq
    go_enter Tryd.func48, Tryd.ntmps48
    go_wp2_with fail
    refine HO.out.mono ?_
    rintro e w1 ⟨rfl, hb1⟩
    have HB1 := Lib.hid (belowTrans HB2.out hb1)
    have HR1 := Lib.hid (Arr.below HR.out hb1)
    have hz1 : w.heap.size + 1 < w1.heap.size := by have := hb1.size; simp at this; omega
    have HG := Lib.hid (four_new w1 (.int .i64 p) (.int .i64 d) (.slice a low.length c) (.int .i64 (ordQ p d : Nat)) 72)
    have HRD := Lib.hid (Arr.alloc HR1.out (.cells #[.int .i64 p, .int .i64 d, .slice a low.length c, .int .i64 (ordQ p d : Nat)] 72))
    have HBD := Lib.hid (belowTrans HB1.out (below_box w1 (.cells #[.int .i64 p, .int .i64 d, .slice a low.length c, .int .i64 (ordQ p d : Nat)] 72)))
    clear hb1
    go_wp2_with fail
    obtain ⟨W, hW⟩ : ∃ W, W = w1.alloc (.cells #[.int .i64 p, .int .i64 d, .slice a low.length c, .int .i64 (ordQ p d : Nat)] 72) := ⟨_, rfl⟩
    rw [← hW] at HG HRD HBD
    rw [← hW]
    obtain ⟨⟨k0, k1, k2, k3⟩, ⟨e0, e1, e2, e3⟩⟩ := four_cells HRD.out
    obtain ⟨⟨l0, l1, l2, l3⟩, _⟩ := four_cells HG.out
    clear hW HO HR HR1 HB1 HB2
    go_loop [9, 21] (fun _ s => ∃ k : Nat, k ≤ es.length ∧ s = .int .i64 k ∧ (es.take k).any (outQ (ordQ p d)) = false) (fun _ s => es.length - (intOf s).toNat)
    case atStart => exact ⟨0, by omega, rfl, by simp⟩
    case round =>
      obtain ⟨k, hk, rfl, hno⟩ := hrel
      have HN := Lib.hid hno
      clear hno
      by_cases hlt : k < es.length
      · obtain ⟨b, o, rfl, hb, hc⟩ := HX.out k hlt
        have hcell := hc k hlt
        rw [← HBD.out.cell (p := ⟨b, o + k, none⟩) hb] at hcell
        clear hc
        cases d1 : decide (ix es k < 0)
        · cases d2 : decide (((ordQ p d : Nat) : Int) ≤ ix es k)
          · have o1 := outQ_no d1 d2
            have HN2 : Hid ((es.take (k + 1)).any (outQ (ordQ p d)) = false) := by
              show _ = _; rw [take_succ_ix hlt, List.any_append, HN.out]; simp [o1]
            clear o1
            go_wp2_with fail
            go_round
            case rel => exact ⟨k + 1, by omega, by go_num, HN2.out⟩
            case measure => simp [intOf]; omega
          · have HF : Hid (withFault p d low es = 1) := by show _ = _; rw [HW0.out, any_take_hit (q := outQ (ordQ p d)) hlt (by unfold outQ; simp at d2 ⊢; omega)]; rfl
            go_wp2_with fail
            exact bodyPost_ret (results_arrT (p := 4) (u := 5) rfl (four_set HRD.out _ _ _ _) Tryd.underlying72 rfl (by kernel_rfl) rfl) rfl (with_end HF.out (by decide) (below_four HBD.out (Nat.le_succ _) _ _ _ _))
        · have HF : Hid (withFault p d low es = 1) := by show _ = _; rw [HW0.out, any_take_hit (q := outQ (ordQ p d)) hlt (by unfold outQ; simp at d1 ⊢; omega)]; rfl
          go_wp2_with fail
          exact bodyPost_ret (results_arrT (p := 4) (u := 5) rfl (four_set HRD.out _ _ _ _) Tryd.underlying72 rfl (by kernel_rfl) rfl) rfl (with_end HF.out (by decide) (below_four HBD.out (Nat.le_succ _) _ _ _ _))
      · obtain rfl : k = es.length := by omega
        have HF : Hid (withFault p d low es = 0) := by show _ = _; rw [HW0.out]; have := HN.out; rw [List.take_length] at this; rw [this]; rfl
        go_wp2_with fail
        exact bodyPost_ret (results_arrT (p := 4) (u := 5) rfl (four_set HRD.out _ _ _ _) Tryd.underlying72 rfl (by kernel_rfl) rfl) rfl (with_good HF.out (below_four HBD.out (Nat.le_succ _) _ _ _ _))
  · rw [if_neg hf] at HO
    have HF : Hid (withFault p d low es = fieldFault p d low) := by show _ = _; unfold withFault; rw [if_pos hf]
    have HNe := Lib.hid hf
    have e1 : (fieldFault p d low != 0) = true := by simp [hf]
    unfold noRoom at HO
    clear hf
    go_enter Tryd.func48, Tryd.ntmps48
    go_wp2_with fail
    refine HO.out.mono ?_
    rintro e w1 ⟨rfl, hb1⟩
    have HB1 := Lib.hid (belowTrans HB2.out hb1)
    have HR1 := Lib.hid (Arr.below HR.out hb1)
    have hz1 : w.heap.size + 1 < w1.heap.size := by have := hb1.size; simp at this; omega
    obtain ⟨⟨k0, k1, k2, k3⟩, ⟨e0, e1', e2, e3⟩⟩ := four_cells HR1.out
    clear hb1
    go_wp2_with fail
    have hbz := below_four HB1.out (Nat.le_succ w.heap.size) (.int .i64 0) (.int .i64 0) (.slice none 0 0) (.int .i64 0)
    exact bodyPost_ret (results_arrT (p := 4) (u := 5) rfl (Arr.alloc (four_set HR1.out _ _ _ _) _) Tryd.underlying72 rfl (by kernel_rfl) rfl) rfl (with_end HF.out HNe.out (hbz.alloc hbz.size _))
end Go.Proofs.YtdbfpdhcaiiiaaaDoor
