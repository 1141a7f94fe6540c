/-
  Contracts: quasi.Commutes, Associates, Idempotent of a Latin square. No condition.
-/
import Derived.Test.YtkmfhnjadpdkeaaAsk1
namespace Go.Proofs.Ytkmfhnjadpdkeaa
open Go.RowKit

theorem wpList_load_tabG {P : Program} {ops : Array Oper} {rest : List Oper} {o : Oper} {a : Act} {w : World} {Q : Exit → Act → World → Prop} (hgd : Region.wanted o (yielded ops a.tmps) = true) (ty : TypeId) (x : Operand) (ho : o.op = .load ty x)
    (b : Nat) (hx : a.eval x = .pointer (some ⟨b, 0, none⟩)) {n : Nat} {f : Nat → Int} (hA : Nums w b n f) {d : TypeDesc}
    (hu : P.underlying ty = some d) (hd : (match d with | .struct _ | .array _ _ => true | _ => false) = true) (hi : (P.info? ty).map (·.size) = some n)
    (h : wpList P ops Q rest (a.put o.dst (.agg (rowOf n f).toArray)) w) : wpList P ops Q (o :: rest) a w :=
  wpList_step fun _ hK => by rw [if_pos hgd]; exact wp_load_tab ty x ho b hx hA hu hd hi (hK _ _ h)

theorem elem_nil (side : Int) (xs : List Int) : elemFault side xs [] = latinFault side xs := by
  unfold elemFault
  by_cases h : latinFault side xs = 0
  · rw [if_neg (by simpa using h), h]; rfl
  · rw [if_pos h]
theorem idem_all (n : Nat) (xs : List Int) : allX (fun x _ _ => idemP n xs x) (mostN n 1 0) (mostN n 1 1) (mostN n 1 2) = allTo (idemP n xs) n := by
  show allTo (fun x => allTo (fun _ => allTo (fun _ => idemP n xs x) 1) 1) n = _
  exact allTo_congr fun x _ => by simp [allTo]

set_option maxRecDepth 100000 in
set_option maxHeartbeats 1000000 in
theorem idem_yes (n : Nat) (v : Value) (xs : List Int) (w : World) (h : IntsAt w v xs) (hL : IsLatin n xs) :
    Calls Try.prog 32 #[.agg #[.int .i64 n, v]] w fun e w' => e = .returned (.tuple #[.bool (allTo (idemP n xs) n), .int .i64 0]) ∧ Below w.heap.size w w' := by
  have HB1 := Lib.hid (below_box w (.cells #[.int .i64 n, v] 24))
  have HI := Lib.hid (h.below HB1.out)
  have Hf : Hid (elemFault n xs [] = 0) := (elem_nil n xs).trans hL.fault
  have HL := Lib.hid hL
  have hn8 : n ≤ 8 := by have := hL.hi; omega
  have hn1 : 1 ≤ n := by have := hL.lo; omega
  clear h hL
  go_enter Try.func32, Try.ntmps32
  go_wp2_with fail
  refine (open_any n v _ xs [] _ HI.out (intsAt_nil _)).mono ?_
  rw [Hf.out, tabOf_ok Hf.out]
  rintro e w1 ⟨rfl, hb1⟩
  obtain ⟨W, q1, q2, q3, q4⟩ := run_store_tab (P := Try.prog) w1 60 Try.zeroCells60 (tfill n xs xs.length) 65 rfl
  have hB : Below w.heap.size w W := (belowTrans HB1.out hb1).trans (q3.mono (belowTrans HB1.out hb1).size)
  have HB := Lib.hid hB
  have Q2 := Lib.hid q2
  clear hB q2 q3
  go_wp2_with (with_reducible refine wpList_load_tabG ?g 60 _ rfl _ rfl Q2.out Try.underlying60 rfl (by kernel_rfl) ?_; case g => first | decide | (simp [Region.wanted, yielded]; done))
  refine (all1_any 65 enters_idemC _ n 1 hn8 hn1 (by omega) (tfill n xs xs.length) (tfill_zero n xs _) (fun x _ _ => idemP n xs x) W (fun x y z w' hx _ _ hb => idemC_any HL.out x y z w1.heap.size w' hx (Arr.below Q2.out hb))).mono ?_
  rw [idem_all]
  rintro e w2 ⟨rfl, hb2⟩
  have Hb2 := Lib.hid (HB.out.trans (hb2.mono HB.out.size))
  clear hb2
  go_wp2_with fail
  go_ret2
  exact ⟨rfl, Hb2.out⟩

theorem comm_all (n : Nat) (xs : List Int) : allX (fun x y _ => commP n xs x y) (mostN n 2 0) (mostN n 2 1) (mostN n 2 2) = allTo (commY n xs) n := by
  show allTo (fun x => allTo (fun y => allTo (fun _ => commP n xs x y) 1) n) n = _
  rw [Bool.eq_iff_iff, allTo_iff, allTo_iff]
  constructor
  · intro h x hx
    refine allTo_iff.2 fun y hy => ?_
    have := allTo_iff.1 (h x hx) y (by omega)
    simpa [allTo] using this
  · intro h x hx
    refine allTo_iff.2 fun y hy => ?_
    have key : commP n xs x y = true := by
      rcases Nat.lt_trichotomy x y with e | e | e
      · have := allTo_iff.1 (h y hy) x e
        unfold commP at this ⊢; simp at this ⊢; exact this.symm
      · subst e; unfold commP; simp
      · exact allTo_iff.1 (h x hx) y e
    simpa [allTo] using key
theorem assoc_all (n : Nat) (xs : List Int) : allX (fun x y z => assocP n xs x y z) (mostN n 3 0) (mostN n 3 1) (mostN n 3 2) = allTo (assocY n xs) n := rfl

set_option maxRecDepth 100000 in
set_option maxHeartbeats 1000000 in
theorem comm_yes (n : Nat) (v : Value) (xs : List Int) (w : World) (h : IntsAt w v xs) (hL : IsLatin n xs) :
    Calls Try.prog 30 #[.agg #[.int .i64 n, v]] w fun e w' => e = .returned (.tuple #[.bool (allTo (commY n xs) n), .int .i64 0]) ∧ Below w.heap.size w w' := by
  have HB1 := Lib.hid (below_box w (.cells #[.int .i64 n, v] 24))
  have HI := Lib.hid (h.below HB1.out)
  have Hf : Hid (elemFault n xs [] = 0) := (elem_nil n xs).trans hL.fault
  have HL := Lib.hid hL
  have hn8 : n ≤ 8 := by have := hL.hi; omega
  have hn1 : 1 ≤ n := by have := hL.lo; omega
  clear h hL
  go_enter Try.func30, Try.ntmps30
  go_wp2_with fail
  refine (open_any n v _ xs [] _ HI.out (intsAt_nil _)).mono ?_
  rw [Hf.out, tabOf_ok Hf.out]
  rintro e w1 ⟨rfl, hb1⟩
  obtain ⟨W, q1, q2, q3, q4⟩ := run_store_tab (P := Try.prog) w1 60 Try.zeroCells60 (tfill n xs xs.length) 65 rfl
  have hB : Below w.heap.size w W := (belowTrans HB1.out hb1).trans (q3.mono (belowTrans HB1.out hb1).size)
  have HB := Lib.hid hB
  have Q2 := Lib.hid q2
  clear hB q2 q3
  go_wp2_with (with_reducible refine wpList_load_tabG ?g 60 _ rfl _ rfl Q2.out Try.underlying60 rfl (by kernel_rfl) ?_; case g => first | decide | (simp [Region.wanted, yielded]; done))
  refine (all1_any 63 enters_commC _ n 2 hn8 hn1 (by omega) (tfill n xs xs.length) (tfill_zero n xs _) (fun x y _ => commP n xs x y) W (fun x y z w' hx hy _ hb => commC_any HL.out x y z w1.heap.size w' hx hy (Arr.below Q2.out hb))).mono ?_
  rw [comm_all]
  rintro e w2 ⟨rfl, hb2⟩
  have Hb2 := Lib.hid (HB.out.trans (hb2.mono HB.out.size))
  clear hb2
  go_wp2_with fail
  go_ret2
  exact ⟨rfl, Hb2.out⟩

set_option maxRecDepth 100000 in
set_option maxHeartbeats 1000000 in
theorem assoc_yes (n : Nat) (v : Value) (xs : List Int) (w : World) (h : IntsAt w v xs) (hL : IsLatin n xs) :
    Calls Try.prog 31 #[.agg #[.int .i64 n, v]] w fun e w' => e = .returned (.tuple #[.bool (allTo (assocY n xs) n), .int .i64 0]) ∧ Below w.heap.size w w' := by
  have HB1 := Lib.hid (below_box w (.cells #[.int .i64 n, v] 24))
  have HI := Lib.hid (h.below HB1.out)
  have Hf : Hid (elemFault n xs [] = 0) := (elem_nil n xs).trans hL.fault
  have HL := Lib.hid hL
  have hn8 : n ≤ 8 := by have := hL.hi; omega
  have hn1 : 1 ≤ n := by have := hL.lo; omega
  clear h hL
  go_enter Try.func31, Try.ntmps31
  go_wp2_with fail
  refine (open_any n v _ xs [] _ HI.out (intsAt_nil _)).mono ?_
  rw [Hf.out, tabOf_ok Hf.out]
  rintro e w1 ⟨rfl, hb1⟩
  obtain ⟨W, q1, q2, q3, q4⟩ := run_store_tab (P := Try.prog) w1 60 Try.zeroCells60 (tfill n xs xs.length) 65 rfl
  have hB : Below w.heap.size w W := (belowTrans HB1.out hb1).trans (q3.mono (belowTrans HB1.out hb1).size)
  have HB := Lib.hid hB
  have Q2 := Lib.hid q2
  clear hB q2 q3
  go_wp2_with (with_reducible refine wpList_load_tabG ?g 60 _ rfl _ rfl Q2.out Try.underlying60 rfl (by kernel_rfl) ?_; case g => first | decide | (simp [Region.wanted, yielded]; done))
  refine (all1_any 64 enters_assocC _ n 3 hn8 hn1 (by omega) (tfill n xs xs.length) (tfill_zero n xs _) (fun x y z => assocP n xs x y z) W (fun x y z w' hx hy hz hb => assocC_any HL.out x y z w1.heap.size w' hx hy hz (Arr.below Q2.out hb))).mono ?_
  rw [assoc_all]
  rintro e w2 ⟨rfl, hb2⟩
  have Hb2 := Lib.hid (HB.out.trans (hb2.mono HB.out.size))
  clear hb2
  go_wp2_with fail
  go_ret2
  exact ⟨rfl, Hb2.out⟩

set_option maxRecDepth 100000 in
set_option maxHeartbeats 1000000 in
theorem idem_no (side : Int) (v : Value) (xs : List Int) (w : World) (h : IntsAt w v xs) (hf : latinFault side xs ≠ 0) :
    Calls Try.prog 32 #[.agg #[.int .i64 side, v]] w fun e w' => e = .returned (.tuple #[.bool false, .int .i64 (latinFault side xs)]) ∧ Below w.heap.size w w' := by
  have HB1 := Lib.hid (below_box w (.cells #[.int .i64 side, v] 24))
  have HI := Lib.hid (h.below HB1.out)
  have Hf := Lib.hid (elem_nil side xs)
  have e2 : (latinFault side xs == 0) = false := by simpa using hf
  clear h hf
  go_enter Try.func32, Try.ntmps32
  go_wp2_with fail
  refine (open_any side v _ xs [] _ HI.out (intsAt_nil _)).mono ?_
  rw [Hf.out]
  rintro e w1 ⟨rfl, hb1⟩
  obtain ⟨W, q1, q2, q3, q4⟩ := run_store_tab (P := Try.prog) w1 60 Try.zeroCells60 (tabVal side xs []) 65 rfl
  have hB : Below w.heap.size w W := (belowTrans HB1.out hb1).trans (q3.mono (belowTrans HB1.out hb1).size)
  have HB := Lib.hid hB
  clear hB q2 q3
  unfold tabOf
  go_wp2_with fail
  go_ret2
  exact ⟨rfl, HB.out⟩

set_option maxRecDepth 100000 in
set_option maxHeartbeats 1000000 in
theorem comm_no (side : Int) (v : Value) (xs : List Int) (w : World) (h : IntsAt w v xs) (hf : latinFault side xs ≠ 0) :
    Calls Try.prog 30 #[.agg #[.int .i64 side, v]] w fun e w' => e = .returned (.tuple #[.bool false, .int .i64 (latinFault side xs)]) ∧ Below w.heap.size w w' := by
  have HB1 := Lib.hid (below_box w (.cells #[.int .i64 side, v] 24))
  have HI := Lib.hid (h.below HB1.out)
  have Hf := Lib.hid (elem_nil side xs)
  have e2 : (latinFault side xs == 0) = false := by simpa using hf
  clear h hf
  go_enter Try.func30, Try.ntmps30
  go_wp2_with fail
  refine (open_any side v _ xs [] _ HI.out (intsAt_nil _)).mono ?_
  rw [Hf.out]
  rintro e w1 ⟨rfl, hb1⟩
  obtain ⟨W, q1, q2, q3, q4⟩ := run_store_tab (P := Try.prog) w1 60 Try.zeroCells60 (tabVal side xs []) 65 rfl
  have hB : Below w.heap.size w W := (belowTrans HB1.out hb1).trans (q3.mono (belowTrans HB1.out hb1).size)
  have HB := Lib.hid hB
  clear hB q2 q3
  unfold tabOf
  go_wp2_with fail
  go_ret2
  exact ⟨rfl, HB.out⟩

set_option maxRecDepth 100000 in
set_option maxHeartbeats 1000000 in
theorem assoc_no (side : Int) (v : Value) (xs : List Int) (w : World) (h : IntsAt w v xs) (hf : latinFault side xs ≠ 0) :
    Calls Try.prog 31 #[.agg #[.int .i64 side, v]] w fun e w' => e = .returned (.tuple #[.bool false, .int .i64 (latinFault side xs)]) ∧ Below w.heap.size w w' := by
  have HB1 := Lib.hid (below_box w (.cells #[.int .i64 side, v] 24))
  have HI := Lib.hid (h.below HB1.out)
  have Hf := Lib.hid (elem_nil side xs)
  have e2 : (latinFault side xs == 0) = false := by simpa using hf
  clear h hf
  go_enter Try.func31, Try.ntmps31
  go_wp2_with fail
  refine (open_any side v _ xs [] _ HI.out (intsAt_nil _)).mono ?_
  rw [Hf.out]
  rintro e w1 ⟨rfl, hb1⟩
  obtain ⟨W, q1, q2, q3, q4⟩ := run_store_tab (P := Try.prog) w1 60 Try.zeroCells60 (tabVal side xs []) 65 rfl
  have hB : Below w.heap.size w W := (belowTrans HB1.out hb1).trans (q3.mono (belowTrans HB1.out hb1).size)
  have HB := Lib.hid hB
  clear hB q2 q3
  unfold tabOf
  go_wp2_with fail
  go_ret2
  exact ⟨rfl, HB.out⟩

end Go.Proofs.Ytkmfhnjadpdkeaa
