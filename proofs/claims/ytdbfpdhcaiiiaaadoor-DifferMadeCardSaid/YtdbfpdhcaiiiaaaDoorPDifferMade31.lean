/-
  Contracts: field.Root, field.Trace. No condition but that the table of primes reads as it is laid.
  In a region that draws its order: append of one int to a slice of the call's own; Clone of a slice that may be nil. No condition.
-/
import Derived.Test.YtdbfpdhcaiiiaaaDoorPDifferMade30
import Derived.BigRegion
import Derived.Deep.AppendLies
import Derived.Deep.RegionLaw
import Derived.Deep.RegionHeld3
import Derived.Test.YtdbfpdhcaiiiaaaDoorPDifferMade14
namespace Go.Proofs.YtdbfpdhcaiiiaaaDoor
open Go.RowKit

set_option maxRecDepth 100000 in
set_option maxHeartbeats 2000000 in
theorem froot_any (p d : Int) (v : Value) (low : List Int) (w : World) (h : IntsAt w v low) (hP : PrimesAt w) :
    Calls Tryd.prog 40 #[.agg #[.int .i64 p, .int .i64 d, v]] w (OpPost (rootN p.toNat d.toNat low) (fieldFault p d low) w) := by
  obtain ⟨sa, sc, rfl, _⟩ := id h
  have HB0 := Lib.hid (below_box w (.cells #[.int .i64 p, .int .i64 d, .slice sa low.length sc] 24))
  have HW := Lib.hid (open_any p d (.slice sa low.length sc) low _ (h.below HB0.out) (hP.below HB0.out))
  have HI := Lib.hid h
  clear h hP
  unfold OpenPost roomOf at HW
  by_cases hf : fieldFault p d low = 0
  · obtain ⟨hF, h1, h2⟩ := field_of hf
    obtain ⟨P, rfl⟩ := Int.eq_ofNat_of_zero_le h1
    obtain ⟨D, rfl⟩ := Int.eq_ofNat_of_zero_le h2
    rw [Int.toNat_natCast, Int.toNat_natCast] at hF ⊢
    have HM : Hid (∀ W, Below w.heap.size w W → Calls Tryd.prog 64 #[.agg #[.int .i64 (P : Int), .int .i64 (D : Int), .slice sa low.length sc, .int .i64 (ordQ P D : Nat)]] W fun e w' => e = .returned (.int .i64 (rootN P D low : Nat)) ∧ Below W.heap.size W w') := fun W hW => by
      have hq := hF.q64
      have h1 := pow_one_le (p := P) (by have := hF.p2; omega) D
      exact root_any P D _ _ _ low W (HI.out.below hW) hF (by rw [hF.q]; exact h1) (by rw [hF.q]; exact hq) (by rw [hF.q]; exact root_some hF)
    rw [if_pos hf] at HW
    unfold roomV at HW
    have HF0 := Lib.hid hf
    rw [hf] at HW
    clear hf h1 h2 hF
    go_enter Tryd.func40, Tryd.ntmps40
    go_wp2_with fail
    refine HW.out.mono ?_
    rintro e w1 ⟨rfl, hb1⟩
    have HBD := Lib.hid (belowTrans (belowTrans HB0.out hb1) (below_box w1 (.cells #[.int .i64 (P : Int), .int .i64 (D : Int), .slice sa low.length sc, .int .i64 (ordQ P D : Nat)] 72)))
    clear hb1
    go_wp2_with fail
    refine (HM.out _ HBD.out).mono ?_
    rintro e w2 ⟨rfl, hb2⟩
    have HB2 := Lib.hid (belowTrans HBD.out hb2)
    clear hb2
    go_wp2_with fail
    go_ret2
    exact op_good HF0.out HB2.out
  · rw [if_neg hf] at HW
    unfold noRoom at HW
    have HF0 := Lib.hid hf
    have e1 : (fieldFault p d low != 0) = true := by simp [hf]
    clear hf
    go_enter Tryd.func40, Tryd.ntmps40
    go_wp2_with fail
    refine HW.out.mono ?_
    rintro e w1 ⟨rfl, hb1⟩
    have HBD := Lib.hid (belowTrans (belowTrans HB0.out hb1) (below_box w1 (.cells #[.int .i64 0, .int .i64 0, .slice none 0 0, .int .i64 0] 72)))
    clear hb1
    go_wp2_with fail
    go_ret2
    exact op_bad HF0.out HBD.out

/-- The trace, as the program sums it. -/
def traS (p d : Nat) (low : List Int) : Nat → Nat → Nat → Nat
  | 0, s, _ => s
  | k + 1, s, a => traS p d low k (addV p d s a) (powS (mulM p d low) 7 1 a p)
/-- What Trace holds: the room of its field. -/
structure TrRel (w wr : World) (p d q br : Nat) (v : Value) : Prop where
  bel : Below w.heap.size w wr
  rm : Arr wr br 4 (four (.int .i64 (p : Int)) (.int .i64 (d : Int)) v (.int .i64 (q : Int)))
theorem TrRel.step {w wr W : World} {p d q br : Nat} {v : Value} (h : TrRel w wr p d q br v) (hb : Below wr.heap.size wr W) : TrRel w W p d q br v := ⟨belowTrans h.bel hb, Arr.below h.rm hb⟩
theorem TrRel.room {w wr : World} {p d q br : Nat} {v : Value} (h : TrRel w wr p d q br v) :
    wr.cell? ⟨br, 0, none⟩ = some (.int .i64 (p : Int)) ∧ wr.cell? ⟨br, 1, none⟩ = some (.int .i64 (d : Int)) ∧ wr.cell? ⟨br, 2, none⟩ = some v ∧ wr.cell? ⟨br, 3, none⟩ = some (.int .i64 (q : Int)) :=
  ⟨h.rm.cell (show 0 < 4 by omega), h.rm.cell (show 1 < 4 by omega), h.rm.cell (show 2 < 4 by omega), h.rm.cell (show 3 < 4 by omega)⟩

theorem tr_ret {w w' : World} {n s : Nat} (h : s = n) (hb : Below w.heap.size w w') : Ending.returned (.tuple #[.int .i64 (s : Int), .int .i64 0]) = .returned (.tuple #[.int .i64 (n : Int), .int .i64 0]) ∧ Below w.heap.size w w' := ⟨by rw [h], hb⟩
set_option maxRecDepth 100000 in
set_option maxHeartbeats 3000000 in
theorem ftrace_ok (P D a : Nat) (v : Value) (low : List Int) (w : World) (h : IntsAt w v low) (hP : PrimesAt w) (hF : IsField P D low) (ha : a < P ^ D) :
    Calls Tryd.prog 41 #[.agg #[.int .i64 P, .int .i64 D, v], .int .i64 a] w fun e w' => e = .returned (.tuple #[.int .i64 (traS P D low D 0 a : Nat), .int .i64 0]) ∧ Below w.heap.size w w' := by
  obtain ⟨sa, sc, rfl, _⟩ := id h
  have HB0 := Lib.hid (below_box w (.cells #[.int .i64 P, .int .i64 D, .slice sa low.length sc] 24))
  have HB1 := Lib.hid (belowTrans HB0.out (below_box _ (.cells #[.int .i64 a] 3)))
  have hes := ints_one (w.alloc (.cells #[.int .i64 P, .int .i64 D, .slice sa low.length sc] 24)) a 3
  rw [World.size_alloc] at hes
  have hw := with_any P D (.slice sa low.length sc) _ low [(a : Int)] _ (h.below HB1.out) hes (hP.below HB1.out)
  have hf : withFault P D low [(a : Int)] = 0 := by
    have hF0 := fault_of hF
    unfold withFault
    rw [if_neg (by simp [hF0]), if_neg]
    rw [List.any_eq_true]
    rintro ⟨x, hx, ho⟩
    simp only [List.mem_cons, List.not_mem_nil, or_false] at hx
    subst hx
    unfold outQ at ho
    rw [hF.q, decide_eq_true_eq] at ho
    omega
  unfold WithPost withRoom at hw
  rw [if_pos hf, hf, hF.q] at hw
  unfold roomV at hw
  have HW := Lib.hid hw
  have HI := Lib.hid h
  have hq64 := hF.q64
  have ha64 : a < 64 := by omega
  have HAdd : Hid (∀ (x y : Nat) W, x < 64 → y < 64 → Calls Tryd.prog 50 #[.agg #[.int .i64 (P : Int), .int .i64 (D : Int), .slice sa low.length sc, .int .i64 (P ^ D : Nat)], .int .i64 (x : Int), .int .i64 (y : Int)] W fun e w' => e = .returned (.int .i64 (addV P D x y : Nat)) ∧ Below W.heap.size W w') :=
    fun x y W hx hy => add_any P D _ x y _ W hF.p2 (by have := hF.p61; omega) hF.d1 hF.d6 hF.q64 hx hy ⟨_, _, _, rfl⟩
  have HPow : Hid (∀ (x : Nat) W, x < 64 → Below w.heap.size w W → Calls Tryd.prog 65 #[.agg #[.int .i64 (P : Int), .int .i64 (D : Int), .slice sa low.length sc, .int .i64 (P ^ D : Nat)], .int .i64 (x : Int), .int .i64 (P : Int)] W fun e w' => e = .returned (.int .i64 (powS (mulM P D low) 7 1 x P : Nat)) ∧ Below W.heap.size W w') :=
    fun x W hx hW => pow_any P D _ _ low x P W (HI.out.below hW) hF hx (by have := hF.p61; omega)
  have HAl : Hid (∀ x y, addV P D x y < 64) := fun x y => by
    have := addV_lt (p := P) (d := D) (a := x) (b := y) (by have := hF.p2; omega)
    omega
  have HPl : Hid (∀ x, powS (mulM P D low) 7 1 x P < 64) := fun x => powS_lt (mulM_lt hF) 7 1 x P (by omega)
  have hd1 := hF.d1; have hd6 := hF.d6
  clear h hP hes hw hf hF ha
  obtain ⟨q, hq⟩ : ∃ q, q = P ^ D := ⟨_, rfl⟩
  rw [← hq] at HW HAdd HPow hq64
  clear hq
  go_enter Tryd.func41, Tryd.ntmps41
  go_wp2_with fail
  refine HW.out.mono ?_
  rintro e w1 ⟨rfl, hb1⟩
  have HT : Hid (TrRel w (w1.alloc (.cells #[.int .i64 (P : Int), .int .i64 (D : Int), .slice sa low.length sc, .int .i64 (q : Int)] 72)) P D q w1.heap.size (.slice sa low.length sc)) :=
    ⟨belowTrans (belowTrans HB1.out hb1) (below_box _ _), four_new w1 _ _ _ _ _⟩
  clear hb1 HW
  go_wp2_with fail
  go_loopw [1, 8, 22] (fun x s u wr => ∃ k x0 s0 : Nat, k ≤ D ∧ u = .int .i64 k ∧ x = .int .i64 x0 ∧ s = .int .i64 s0 ∧ x0 < 64 ∧ s0 < 64 ∧ traS P D low (D - k) s0 x0 = traS P D low D 0 a ∧ TrRel w wr P D q w1.heap.size (.slice sa low.length sc)) (fun _ _ u _ => D - (intOf u).toNat)
  case atStart => exact ⟨0, a, 0, by omega, rfl, rfl, rfl, ha64, by omega, rfl, HT.out⟩
  case round =>
    clear HT
    obtain ⟨k, x, s, hk, rfl, rfl, rfl, hx, hs, htr, hR⟩ := hrel
    have HR := Lib.hid hR; have HTr := Lib.hid htr
    clear hR htr
    obtain ⟨r0, r1, r2, r3⟩ := HR.out.room
    by_cases hlt : k < D
    · have HN : Hid (traS P D low (D - (k + 1)) (addV P D s x) (powS (mulM P D low) 7 1 x P) = traS P D low D 0 a) := by
        show _ = _
        rw [← HTr.out, show D - k = (D - (k + 1)) + 1 by omega, traS]
      have ha1 := HAl.out s x
      have hp1 := HPl.out x
      go_wp2_with fail
      refine (HAdd.out s x wr hs hx).mono ?_
      rintro e w2 ⟨rfl, hb2⟩
      have HR2 := Lib.hid (HR.out.step hb2)
      clear hb2 r0 r1 r2 r3
      obtain ⟨r0, r1, r2, r3⟩ := HR2.out.room
      go_wp2_with fail
      refine (HPow.out x w2 hx HR2.out.bel).mono ?_
      rintro e w3 ⟨rfl, hb3⟩
      have HR3 := Lib.hid (HR2.out.step hb3)
      clear hb3 r0 r1 r2 r3
      generalize addV P D s x = s2 at *
      generalize powS (mulM P D low) 7 1 x P = x2 at *
      go_wp2_with fail
      go_roundw
      case rel => exact ⟨k + 1, x2, s2, by omega, by go_num, rfl, rfl, hp1, ha1, HN.out, HR3.out⟩
      case measure => simp [intOf]; omega
    · obtain rfl : k = D := by omega
      have HZ : Hid (s = traS P k low k 0 a) := by
        show _ = _
        rw [← HTr.out, Nat.sub_self, traS]
      go_wp2_with fail
      go_ret2
      exact tr_ret HZ.out HR.out.bel
end Go.Proofs.YtdbfpdhcaiiiaaaDoor

namespace Go.Proofs.YtdbfpdhcaiiiaaaDoor
open Go.RowKit

theorem keep_cell {W w2 : World} (hb : Below W.heap.size W w2) {b o : Nat} {x : Value} (hlt : b < W.heap.size) (hc : W.cell? ⟨b, o, none⟩ = some x) : w2.cell? ⟨b, o, none⟩ = some x := by
  rw [(bcell hb).1 _ _ hlt]; exact hc
theorem lt_box (w : World) (o : Obj) : w.heap.size < (w.alloc o).heap.size := by simp
theorem le_box {n : Nat} {w : World} (h : n ≤ w.heap.size) (o : Obj) : n ≤ (w.alloc o).heap.size := by simp; omega
set_option maxRecDepth 100000 in
theorem step_ints {ops : Array Oper} {o : Oper} {a : Act} {w : World} {K : Act → World → Prop} {Q : Exit → Act → World → Prop} {E : Prop} (hgd : o.guard = none) (s x : Operand)
    (ho : o.op = .call { callee := .builtin .append, args := #[s, x], argTypes := #[22, 22] }) {base : Nat} {v : Value} {xs : List Int} (hs : a.eval s = v) (hown : Own w base 3 v xs)
    (g : Nat) {y : Int} (hx : a.eval x = .slice (some ⟨g, 0, none⟩) 1 1) (hc : w.cell? ⟨g, 0, none⟩ = some (.int .i64 y)) (hl : xs.length < 1000000000) (hb : base ≤ w.heap.size)
    (h : ∀ v' w', Own w' base 3 v' (xs ++ [y]) → w.grownBy w' v.ownBlock → K (a.put o.dst v') w') : if Region.wanted o (yielded ops a.tmps) = true then Oper.wp Tryd.prog o a w K Q else E := by
  obtain ⟨i0, hi0, hz0, hz1, hz2⟩ := info_parts info_int
  refine step_append_lies w hgd s x 22 ho base 3 i0 _ 1 8 Tryd.underlying22 hi0 hz0 hz1 hz2 rfl (by omega) v xs.length (cellsOf xs) hs hown ⟨g, 0, none⟩ 1 1 [.int .i64 y] hx rfl (news_one hc) (by simp [Value.oneCell'])
    (by omega) (by unfold maxLen; omega) (by omega) hb _ rfl ?_
  intro gg cap w' q1 q2 _ _
  refine h _ w' ?_ q2
  unfold Own
  rw [cellsOf_snoc, List.length_append]
  exact q1

/-- Clone of a slice that holds some, or is nil. -/
def ClonePost (xs : List Int) (w : World) : Ending → World → Prop := fun e w' => ∃ v', e = .returned v' ∧ Own w' w.heap.size 3 v' xs ∧ Below w.heap.size w w'
end Go.Proofs.YtdbfpdhcaiiiaaaDoor
