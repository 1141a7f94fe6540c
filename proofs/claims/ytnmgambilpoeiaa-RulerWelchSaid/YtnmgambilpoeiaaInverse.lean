/-
  Contract: perm.Inverse. No condition.
-/
import Derived.Test.YtnmgambilpoeiaaCostasC
import Derived.Test.YtnmgambilpoeiaaOwn
namespace Go.Proofs.Ytnmgambilpoeiaa
open Go.RowKit

theorem nums_fresh {w : World} {base g n : Nat} {t : TypeId} (h : w.ownsRow base t 1 (.slice (some ⟨g, 0, none⟩) n n) n (madeCells #[Value.int .i64 0] (n * 1)).toList) : Nums w g n (fun _ => 0) := by
  rcases h.2 with ⟨e, _⟩ | ⟨g', cap, cur, e, hg, hh, hc, hm, hs, ht⟩
  · cases e
  · injection e with e1 e2 e3
    injection e1 with e1
    injection e1 with e1 _ _
    subst e1
    refine ⟨(Array.getElem?_eq_some_iff.1 hh).1, fun j hj => ⟨?_, by simp [World.frozen?, hh]⟩⟩
    rw [cell_of_row w g j cur t (0, 0) hh]
    have e4 : (cur.toList.take (n * 1))[j]? = ((madeCells #[Value.int .i64 0] (n * 1)).toList)[j]? := by rw [ht]
    rw [List.getElem?_take_of_lt (by omega), madeCells_one] at e4
    rw [← Array.getElem?_toList, e4]
    simp [hj]
/-- Where q stands, of the first i places (the last of them). -/
def icell (xs : List Int) : Nat → Nat → Int
  | 0, _ => 0
  | i + 1, q => if ix xs i = (q : Int) then (i : Int) else icell xs i q
def invL (xs : List Int) : List Int := (List.range xs.length).map (icell xs xs.length)
theorem invL_len (xs : List Int) : (invL xs).length = xs.length := by simp [invL]
theorem invL_ix {xs : List Int} {q : Nat} (h : q < xs.length) : ix (invL xs) q = icell xs xs.length q := by
  rw [ix_lt (by rw [invL_len]; exact h)]; simp [invL]
def InvPost (xs : List Int) (w : World) : Ending → World → Prop := fun d w' => ∃ u, d = .returned u ∧ IntsAt w' u (invL xs) ∧ Below w.heap.size w w'

set_option maxRecDepth 100000 in
set_option maxHeartbeats 1000000 in
theorem inverse_any (v : Value) (xs : List Int) (w : World) (h : IntsAt w v xs) (h0 : permF xs = 0) : Calls Try.prog 40 #[v] w (InvPost xs w) := by
  have hr := permF_rng h0
  have HR := Lib.hid hr.2
  have hl := hr.1
  obtain ⟨i0, hi0, hz0, hz1, hz2⟩ := info_parts info_int
  obtain ⟨a, c, rfl, h1, h2, _, h3⟩ := h
  have HX := Lib.hid h3
  clear h3 hr h0
  go_enter Try.func40, Try.ntmps40
  go_wp2_with (at_make; go_must (refine wpList_make_full _ rfl _ _ _ rfl w.heap.size 3 i0 _ 1 Try.underlying22 hi0 hz0 hz1 _ _ _ _ xs.length rfl rfl rfl rfl (by rw [hz2]; omega) (by unfold maxLen; omega) (by simp) ?_; intro w2 hown2 hgrow2))
  have HN2 : Hid (Nums w2 w.heap.size xs.length (fun q => icell xs 0 q)) := (nums_fresh hown2).congr fun q _ => by simp [icell]
  have HB2 : Hid (Below w.heap.size w w2) := (Below.refl _ _).grown hgrow2 (by simp) (by intro k hk; cases hk)
  clear hown2 hgrow2
  go_wp2_with fail
  go_loopw [11] (fun s wr => ∃ i : Nat, i ≤ xs.length ∧ s = .int .i64 i ∧ Nums wr w.heap.size xs.length (fun q => icell xs i q) ∧ Below w.heap.size w wr) (fun s _ => xs.length - (intOf s).toNat)
  case atStart => exact ⟨0, by omega, rfl, HN2.out, HB2.out⟩
  case round =>
    clear HN2 HB2
    obtain ⟨i, hi, rfl, hN, hB⟩ := hrel
    have HN := Lib.hid hN; have HB := Lib.hid hB
    clear hN hB
    by_cases hlt : i < xs.length
    · obtain ⟨b, o, rfl, hbb, hcc⟩ := HX.out i hlt
      have hci : wr.cell? ⟨b, o + i, none⟩ = some (.int .i64 (ix xs i)) := by rw [(bcell HB.out).1 _ _ hbb]; exact hcc i hlt
      have hb := HR.out i hlt
      obtain ⟨q, hq⟩ := Int.eq_ofNat_of_zero_le hb.1
      have HPc : Hid (∀ z, icell xs (i + 1) z = if (q : Int) = (z : Int) then (i : Int) else icell xs i z) := fun z => by rw [icell, hq]
      rw [hq] at hci hb
      clear hq hcc
      have hq1 : q < xs.length := by omega
      have hqi : (q : Int) < ((xs.length : Nat) : Int) := by omega
      have c1 : wr.cell? ⟨w.heap.size, q, none⟩ = some (.int .i64 (icell xs i q)) := HN.out.cell hq1
      have c2 := HN.out.free hq1
      have HN3 : Hid (Nums (wr.setCell ⟨w.heap.size, q, none⟩ (.int .i64 (i : Int))) w.heap.size xs.length (fun z => icell xs (i + 1) z)) := by
        refine (Nums.set HN.out hq1 (i : Int)).congr fun z hz => ?_
        show Value.int .i64 (if z = q then (i : Int) else icell xs i z) = Value.int .i64 (icell xs (i + 1) z)
        congr 1
        rw [HPc.out z]
        by_cases e : z = q
        · subst e; rw [if_pos rfl, if_pos rfl]
        · rw [if_neg e, if_neg (by omega)]
      clear hb
      generalize icell xs i q = C at *
      go_wp2_with fail
      go_roundw
      case rel => exact ⟨i + 1, by omega, by go_num, HN3.out, HB.out.setCell (Nat.le_refl _) _⟩
      case measure => simp [intOf]; omega
    · obtain rfl : i = xs.length := by omega
      go_wp2_with fail
      go_ret
      refine ⟨_, rfl, ⟨some ⟨w.heap.size, 0, none⟩, xs.length, (by rw [invL_len]; rfl), by rw [invL_len]; omega, by omega, (fun h => by cases h), fun i hi => ⟨w.heap.size, 0, rfl, HN.out.lt, fun j hj => ?_⟩⟩, HB.out⟩
      rw [invL_len] at hj
      rw [Nat.zero_add, invL_ix hj]
      exact HN.out.cell hj

def InvPostT (xs : List Int) (w : World) : Ending → World → Prop := fun d w' => ∃ u, d = .returned (.tuple #[u, .int .i64 0]) ∧ IntsAt w' u (invL xs) ∧ Below w.heap.size w w'
set_option maxRecDepth 100000 in
set_option maxHeartbeats 1000000 in
theorem inverseC_any (v : Value) (xs : List Int) (w : World) (h : IntsAt w v xs) (h0 : permF xs = 0) : Calls Try.prog 22 #[v] w (InvPostT xs w) := by
  have HV := Lib.hid h
  have HC := Lib.hid (permCheck_any v xs w h)
  rw [h0] at HC
  have HI : Hid (∀ w1, IntsAt w1 v xs → Calls Try.prog 40 #[v] w1 (InvPost xs w1)) := fun w1 hw => inverse_any v xs w1 hw h0
  obtain ⟨a, c, rfl, _⟩ := h
  clear h0
  go_enter Try.func22, Try.ntmps22
  go_wp2_with fail
  refine (HC.out).mono ?_
  rintro e w1 ⟨rfl, hb⟩
  have HB1 := Lib.hid hb; clear hb
  go_wp2_with fail
  refine (HI.out _ (HV.out.below HB1.out)).mono ?_
  rintro e w2 ⟨u, rfl, hu, hb⟩
  have HB2 := Lib.hid (belowTrans HB1.out hb); clear hb
  have HU := Lib.hid hu
  obtain ⟨ua, uc, rfl, _⟩ := hu
  go_wp2_with fail
  go_ret2
  exact ⟨_, rfl, HU.out, HB2.out⟩
end Go.Proofs.Ytnmgambilpoeiaa
