/-
  Contract: quasi.Alike looks for other names. No condition.
-/
import Derived.Deep.DeepCutAuto
import Derived.Test.YtkmfhnjadpdkeaaNames
import Derived.Test.YtkmfhnjadpdkeaaAsk2
namespace Go.Proofs.Ytkmfhnjadpdkeaa
open Go.RowKit

/-- What is wrong with two squares. -/
def alikeF (s t : Int) (xs ys : List Int) : Int := if latinFault s xs ≠ 0 then latinFault s xs else if latinFault t ys ≠ 0 then latinFault t ys else if s ≠ t then 2 else if 6 < s then 3 else 0
def AlikePost (n : Nat) (xs ys : List Int) (w : World) (e : Ending) (w' : World) : Prop :=
  match firR n (namB n xs ys) n [] with
  | some zs => ∃ a l c, e = .returned (.tuple #[.slice (some a) l c, .int .i64 0]) ∧ IntsAt w' (.slice (some a) l c) zs ∧ Below w.heap.size w w'
  | none => e = .returned (.tuple #[.slice none 0 0, .int .i64 4]) ∧ Below w.heap.size w w'

set_option maxRecDepth 100000 in
set_option maxHeartbeats 2000000 in
theorem alike_ok (n : Nat) (v u : Value) (xs ys : List Int) (w : World) (h : IntsAt w v xs) (g : IntsAt w u ys) (hx : IsLatin n xs) (hy : IsLatin n ys) (h6 : n ≤ 6) :
    Calls Try.prog 39 #[.agg #[.int .i64 n, v], .agg #[.int .i64 n, u]] w (AlikePost n xs ys w) := by
  have HB1 := Lib.hid ((below_box w (.cells #[.int .i64 n, v] 24)).trans ((below_box _ (.cells #[.int .i64 n, u] 24)).mono (by simp)))
  have HI := Lib.hid (h.below HB1.out)
  have HJ := Lib.hid (g.below HB1.out)
  have Hf : Hid (elemFault n xs [] = 0) := (elem_nil n xs).trans hx.fault
  have Hg : Hid (elemFault n ys [] = 0) := (elem_nil n ys).trans hy.fault
  have HLX := Lib.hid hx; have HLY := Lib.hid hy
  have hn1 : 1 ≤ n := by have := hx.lo; omega
  clear h g hx hy
  go_enter Try.func39, Try.ntmps39
  go_wp2_with fail
  refine (open_any n v _ xs [] _ HI.out (intsAt_nil _)).mono ?_
  rw [Hf.out, tabOf_ok Hf.out]
  rintro e w1 ⟨rfl, hb1⟩
  have HBW1 := Lib.hid (belowTrans HB1.out hb1)
  obtain ⟨z1, z2, _, _, x3, x4⟩ := box2 hb1
  obtain ⟨W, q1, q2, q3, q4⟩ := run_store_tab (P := Try.prog) w1 60 Try.zeroCells60 (tfill n xs xs.length) 65 rfl
  have HQ := Lib.hid q2
  have HBW := Lib.hid (HBW1.out.trans (q3.mono (Nat.le_of_lt z2)))
  have x3' : W.cell? ⟨w.heap.size + 1, 0, none⟩ = some (.int .i64 n) := by rw [(bcell q3).1 _ _ z1]; exact x3
  have x4' : W.cell? ⟨w.heap.size + 1, 1, none⟩ = some u := by rw [(bcell q3).1 _ _ z1]; exact x4
  have HB2 := Lib.hid (belowTrans hb1 q3)
  clear x3 x4 hb1 q2 q3
  go_wp2_with fail
  clear q1
  refine (open_any n u _ ys [] _ (HJ.out.below HB2.out) (intsAt_nil _)).mono ?_
  rw [Hg.out, tabOf_ok Hg.out]
  rintro e w2 ⟨rfl, hb2⟩
  clear x3' x4'
  obtain ⟨V, r1, r2, r3, r4⟩ := run_store_tab (P := Try.prog) w2 60 Try.zeroCells60 (tfill n ys ys.length) 65 rfl
  have HA : Hid (Nums V w1.heap.size 65 (tfill n xs xs.length)) := (Arr.below (Arr.below HQ.out hb2) r3)
  have HC := Lib.hid r2
  have HBV := Lib.hid (HBW.out.trans ((belowTrans hb2 r3).mono HBW.out.size))
  have c1 := tab_side HA.out
  have c2 := tab_side HC.out
  have hne : ((n : Int) != (n : Int)) = false := by simp
  have h6' : decide ((6 : Int) < (n : Int)) = false := by simp; omega
  have h6'' : decide (6 < n) = false := by simp; omega
  clear hb2 r2 r3
  go_upto_region 11 with (fail)
  clear c1 c2 hne h6' h6''
  have HN : Hid (∀ w3, Calls Try.prog 67 #[.agg (rowOf 65 (tfill n xs xs.length)).toArray, .agg (rowOf 65 (tfill n ys ys.length)).toArray, .slice none 0 0] w3 (NamPost (firR n (namB n xs ys) n []) w3)) := fun w3 => names_all n xs ys HLX.out HLY.out w3
  have HP : Hid (∀ e w', AlikePost n xs ys w e w' = (match firR n (namB n xs ys) n [] with
    | some zs => ∃ a l c, e = .returned (.tuple #[.slice (some a) l c, .int .i64 0]) ∧ IntsAt w' (.slice (some a) l c) zs ∧ Below w.heap.size w w'
    | none => e = .returned (.tuple #[.slice none 0 0, .int .i64 4]) ∧ Below w.heap.size w w')) := fun _ _ => rfl
  have hnil := fun W => Lib.run_eql_slice_nil (P := Try.prog) W 22 3 none 0 0 0 0 Try.underlying22
  cases eg : firR n (namB n xs ys) n []
  · rw [eg] at HN HP
    clear eg
    go_wp2_with (first
      | (with_reducible refine wpList_load_tab rfl 60 _ rfl _ rfl HA.out Try.underlying60 rfl (by kernel_rfl) ?_)
      | (with_reducible refine wpList_load_tab rfl 60 _ rfl _ rfl HC.out Try.underlying60 rfl (by kernel_rfl) ?_)
      | fail)
    refine (HN.out _).mono ?_
    intro e w3 hp
    obtain ⟨rfl, hb⟩ := hp
    have HB3 := Lib.hid (HBV.out.trans (hb.mono HBV.out.size))
    clear hb
    go_wp2_with fail
    go_ret2
    rw [HP.out]
    exact ⟨rfl, HB3.out⟩
  · rw [eg] at HN HP
    clear eg
    go_wp2_with (first
      | (with_reducible refine wpList_load_tab rfl 60 _ rfl _ rfl HA.out Try.underlying60 rfl (by kernel_rfl) ?_)
      | (with_reducible refine wpList_load_tab rfl 60 _ rfl _ rfl HC.out Try.underlying60 rfl (by kernel_rfl) ?_)
      | fail)
    refine (HN.out _).mono ?_
    intro e w3 hp
    obtain ⟨ra, rl, rc, rfl, hr, hb⟩ := hp
    have HB3 := Lib.hid (HBV.out.trans (hb.mono HBV.out.size))
    have HR := Lib.hid hr
    have hnil2 := fun W => Lib.run_eql_slice_nil (P := Try.prog) W 22 3 (some ra) rl rc 0 0 Try.underlying22
    clear hb hr
    go_wp2_with fail
    go_ret2
    rw [HP.out]
    exact ⟨_, _, _, rfl, HR.out, HB3.out⟩
set_option maxRecDepth 100000 in
set_option maxHeartbeats 2000000 in
/-- A table that was stored where the square is none. -/
theorem alike_fa (s t : Int) (v u : Value) (xs : List Int) (w : World) (h : IntsAt w v xs) (hf : latinFault s xs ≠ 0) :
    Calls Try.prog 39 #[.agg #[.int .i64 s, v], .agg #[.int .i64 t, u]] w fun e w' => e = .returned (.tuple #[.slice none 0 0, .int .i64 (latinFault s xs)]) ∧ Below w.heap.size w w' := by
  have HB1 := Lib.hid ((below_box w (.cells #[.int .i64 s, v] 24)).trans ((below_box _ (.cells #[.int .i64 t, u] 24)).mono (by simp)))
  have HI := Lib.hid (h.below HB1.out)
  have hf1 : (latinFault s xs != 0) = true := by simpa using hf
  have He := Lib.hid (elem_nil s xs)
  clear h hf
  go_enter Try.func39, Try.ntmps39
  go_wp2_with fail
  refine (open_any s v _ xs [] _ HI.out (intsAt_nil _)).mono ?_
  rw [He.out]
  rintro e w1 ⟨rfl, hb1⟩
  have HBW1 := Lib.hid (belowTrans HB1.out hb1)
  obtain ⟨z1, z2, _, _, x3, x4⟩ := box2 hb1
  obtain ⟨W, q1, q2, q3, q4⟩ := run_store_tab (P := Try.prog) w1 60 Try.zeroCells60 (tabVal s xs []) 65 rfl
  have HBW := Lib.hid (HBW1.out.trans (q3.mono (Nat.le_of_lt z2)))
  unfold tabOf
  clear x3 x4 hb1 q2 q3
  go_wp2_with fail
  go_ret2
  exact ⟨rfl, HBW.out⟩

set_option maxRecDepth 100000 in
set_option maxHeartbeats 2000000 in
/-- What is wrong with the second, or with both. -/
theorem alike_fb (s t : Int) (v u : Value) (xs ys : List Int) (w : World) (h : IntsAt w v xs) (g : IntsAt w u ys) (hx : latinFault s xs = 0) (hf : alikeF s t xs ys ≠ 0) :
    Calls Try.prog 39 #[.agg #[.int .i64 s, v], .agg #[.int .i64 t, u]] w fun e w' => e = .returned (.tuple #[.slice none 0 0, .int .i64 (alikeF s t xs ys)]) ∧ Below w.heap.size w w' := by
  have HB1 := Lib.hid ((below_box w (.cells #[.int .i64 s, v] 24)).trans ((below_box _ (.cells #[.int .i64 t, u] 24)).mono (by simp)))
  have HI := Lib.hid (h.below HB1.out)
  have HJ := Lib.hid (g.below HB1.out)
  have He := Lib.hid (elem_nil s xs)
  have Hg := Lib.hid (elem_nil t ys)
  have Hx := Lib.hid hx
  have HF := Lib.hid hf
  have HEA : Hid (elemFault s xs [] = 0) := (elem_nil s xs).trans hx
  clear h g hx hf
  go_enter Try.func39, Try.ntmps39
  go_wp2_with fail
  refine (open_any s v _ xs [] _ HI.out (intsAt_nil _)).mono ?_
  rw [HEA.out, tabOf_ok HEA.out]
  rintro e w1 ⟨rfl, hb1⟩
  have HBW1 := Lib.hid (belowTrans HB1.out hb1)
  obtain ⟨z1, z2, _, _, x3, x4⟩ := box2 hb1
  obtain ⟨W, q1, q2, q3, q4⟩ := run_store_tab (P := Try.prog) w1 60 Try.zeroCells60 (tfill s xs xs.length) 65 rfl
  have HQ := Lib.hid q2
  have HBW := Lib.hid (HBW1.out.trans (q3.mono (Nat.le_of_lt z2)))
  have x3' : W.cell? ⟨w.heap.size + 1, 0, none⟩ = some (.int .i64 t) := by rw [(bcell q3).1 _ _ z1]; exact x3
  have x4' : W.cell? ⟨w.heap.size + 1, 1, none⟩ = some u := by rw [(bcell q3).1 _ _ z1]; exact x4
  have HB2 := Lib.hid (belowTrans hb1 q3)
  clear x3 x4 hb1 q2 q3
  go_wp2_with fail
  clear q1
  refine (open_any t u _ ys [] _ (HJ.out.below HB2.out) (intsAt_nil _)).mono ?_
  rw [Hg.out]
  rintro e w2 ⟨rfl, hb2⟩
  clear x3' x4'
  obtain ⟨V, r1, r2, r3, r4⟩ := run_store_tab (P := Try.prog) w2 60 Try.zeroCells60 (tabVal t ys []) 65 rfl
  have HA : Hid (Nums V w1.heap.size 65 (tfill s xs xs.length)) := (Arr.below (Arr.below HQ.out hb2) r3)
  have HC := Lib.hid r2
  have HBV := Lib.hid (HBW.out.trans ((belowTrans hb2 r3).mono HBW.out.size))
  clear hb2 r2 r3
  unfold tabOf
  by_cases h1 : latinFault t ys = 0
  · have HEB : Hid (elemFault t ys [] = 0) := (elem_nil t ys).trans h1
    have e0 : tabVal t ys [] = tfill t ys ys.length := by unfold tabVal; rw [if_pos HEB.out]
    rw [e0] at r1 HC ⊢
    rw [h1]
    have c1 := tab_side HA.out
    have c2 := tab_side HC.out
    by_cases h2 : s = t
    · have h3 : 6 < s := by
        refine Classical.byContradiction fun h3 => HF.out ?_
        unfold alikeF; rw [if_neg (by rw [Hx.out]; simp), if_neg (by rw [h1]; simp), if_neg (by simpa using h2), if_neg h3]
      have HR : Hid (alikeF s t xs ys = 3) := by
        show _ = _
        unfold alikeF; rw [if_neg (by rw [Hx.out]; simp), if_neg (by rw [h1]; simp), if_neg (by simpa using h2), if_pos h3]
      have hne : (s != t) = false := by simpa using h2
      have h6' : decide (6 < s) = true := by simpa using h3
      clear h1 h2 h3 e0
      go_wp2_with fail
      go_ret2
      exact ⟨by rw [HR.out]; rfl, HBV.out⟩
    · have HR : Hid (alikeF s t xs ys = 2) := by
        show _ = _
        unfold alikeF; rw [if_neg (by rw [Hx.out]; simp), if_neg (by rw [h1]; simp), if_pos h2]
      have hne : (s != t) = true := by simpa using h2
      clear h1 h2 e0
      go_wp2_with fail
      go_ret2
      exact ⟨by rw [HR.out]; rfl, HBV.out⟩
  · have HR : Hid (alikeF s t xs ys = latinFault t ys) := by
      show _ = _
      unfold alikeF; rw [if_neg (by rw [Hx.out]; simp), if_pos h1]
    have hf1 : (latinFault t ys != 0) = true := by simpa using h1
    clear h1
    go_wp2_with fail
    go_ret2
    exact ⟨by rw [HR.out]; rfl, HBV.out⟩
end Go.Proofs.Ytkmfhnjadpdkeaa
