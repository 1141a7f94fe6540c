/-
  Contract: design.choices: an iterator over all sets of as many points, by a closure that calls itself. No condition.
-/
import Derived.RangeFuncNested
import Derived.RangeFuncBound
import Derived.RangeFuncCalls
import Derived.RangeFuncLeaves
import Derived.RangeFuncBox
import Derived.Shelf.Abstract
import Derived.Shelf.RegionOpen
import Derived.WalkKit
import Derived.OwnWalkIn
import Derived.TacticsInMore
import Derived.LoopNIn
import Derived.LoopIn
import Derived.StillTailTactics
import Derived.Laws.EntriesVeiled
import Derived.Test.YtnmgambilpoeiaaSubs
namespace Go.Proofs.Ytnmgambilpoeiaa
open Go.RowKit Go.Shelf
attribute [local go_sem] Oper.semAt_some

theorem room_none {F : Fence} (hd : F.depth = none) (k : Nat) : F.room k := fun d h => by rw [hd] at h; cases h
theorem roundIn_any {F : Fence} (hd : F.depth = none) {m m' : Nat} {P : Program} {l : Nat} {f : FuncId} {tmps : Array Value} {assign body : Code} {w : World} {R : Ending → World → Prop}
    (h : RoundIn F m P l f tmps assign body w R) : RoundIn F m' P l f tmps assign body w R := ⟨h.1, fun c cs _ => h.2 c cs (room_none hd _)⟩
theorem yieldAt_any {F : Fence} (hd : F.depth = none) {m : Nat} (m' : Nat) {P : Program} {l : Nat} {args : Array Value} {W : World} {R : Ending → World → Prop} (h : YieldAt F m P l args W R) : YieldAt F m' P l args W R := by
  obtain ⟨fn, tmps, assign, body, hy, hR⟩ := h
  exact ⟨fn, tmps, assign, body, hy, roundIn_any hd hR⟩

/-- What a round keeps: all cells but those of block L. -/
structure KeepsBut (L : Nat) (W W' : World) : Prop where
  size : W.heap.size ≤ W'.heap.size
  same : ∀ (k : Nat) (o : Obj), W.heap[k]? = some o → o.isCells = true → k ≠ L → W'.heap[k]? = some o
theorem KeepsBut.refl (L : Nat) (W : World) : KeepsBut L W W := ⟨Nat.le_refl _, fun _ _ h _ _ => h⟩
theorem KeepsBut.trans {L : Nat} {A B C : World} (h : KeepsBut L A B) (k : KeepsBut L B C) : KeepsBut L A C :=
  ⟨Nat.le_trans h.size k.size, fun i o hi ho hl => k.same i o (h.same i o hi ho hl) ho hl⟩
theorem KeepsBut.of_grownBy {L : Nat} {W W' : World} {row : Option Nat} (hg : W.grownBy W' row) (hr : ∀ r, row = some r → r = L ∨ ∃ o : Obj, W.heap[r]? = some o ∧ o.isCells = false) : KeepsBut L W W' :=
  ⟨hg.size, fun k o hk ho hl => (hg.block k (Array.getElem?_eq_some_iff.1 hk).1 (fun e => by
    rcases hr k e.symm with h | ⟨o', h1, h2⟩
    · exact hl h
    · rw [hk] at h1; cases h1; rw [ho] at h2; cases h2)).trans hk⟩
theorem KeepsBut.boxed {L : Nat} {W W' : World} (h : KeepsBut L W W') {B : Nat} {t : TypeId} {v : Value} (hb : Boxed W B t v) (hl : B ≠ L) : Boxed W' B t v := h.same B _ hb rfl hl
theorem KeepsBut.drewN (L : Nat) (W : World) (m : Nat) : KeepsBut L W (W.drewN m) := ⟨Nat.le_refl _, fun _ _ h _ _ => h⟩
theorem grownBy_drewN (W : World) (m : Nat) : W.grownBy (W.drewN m) none := by
  have h : Below W.heap.size W (W.drewN m) := below_drewN (Below.refl _ _) m
  exact ⟨h.os, h.tape, h.output, h.size, fun k hk _ => h.block k hk⟩

/-- A set that comes, held below a bound. -/
def capB (x : Nat) : Nat := x % 1152921504606846976
theorem capB_lt (x : Nat) : capB x < 1152921504606846976 := Nat.mod_lt _ (by omega)
theorem capB_of {x n : Nat} (h : x < 2 ^ n) (hn : n ≤ 40) : capB x = x := by
  have : 2 ^ n ≤ 2 ^ 40 := Nat.pow_le_pow_right (by omega) hn
  exact Nat.mod_eq_of_lt (by omega)
/-- How a choice ends: all have come, or a round has said that it wants no more. -/
def ChooseP (J Jx : List Nat → World → Prop) (L : Nat) (pre l : List Nat) (W : World) (b : Bool) (W' : World) : Prop :=
  (b = true ∧ J (pre ++ l) W' ∧ KeepsBut L W W') ∨ (b = false ∧ ∃ q, q <+: l ∧ Jx (pre ++ q) W')
def ChoosePost (J Jx : List Nat → World → Prop) (L : Nat) (pre l : List Nat) (W : World) (e : Ending) (W' : World) : Prop :=
  ∃ b, e = .returned (.bool b) ∧ ChooseP J Jx L pre l W b W'

theorem partM_mono (n l a s : Nat) {j k : Nat} (h : j ≤ k) : (partM n l a s j).length ≤ (partM n l a s k).length := by
  induction h with
  | refl => exact Nat.le_refl _
  | step _ ih => rw [partM_succ, List.length_append]; omega
theorem choose_kept {J Jx : List Nat → World → Prop} {L : Nat} {pre l : List Nat} {W W' : World} (h : ChooseP J Jx L pre l W true W') : KeepsBut L W W' := by
  rcases h with ⟨_, _, h⟩ | ⟨h, _⟩
  · exact h
  · cases h
theorem choose_on {J Jx : List Nat → World → Prop} {L : Nat} {pre : List Nat} {W W' : World} {n l a s k : Nat} (hk : a ≤ k) (h : ChooseP J Jx L (pre ++ partM n l a s (k - a)) (subsM n l (k + 1) (sb s k)) W true W') : J (pre ++ partM n l a s (k + 1 - a)) W' := by
  rcases h with ⟨_, h, _⟩ | ⟨h, _⟩
  · rw [show k + 1 - a = (k - a) + 1 by omega, partM_succ, ← List.append_assoc, show a + (k - a) = k by omega]; exact h
  · cases h
theorem partM_pre (n l a s : Nat) {j k : Nat} (h : j ≤ k) : partM n l a s j <+: partM n l a s k := by
  induction h with
  | refl => exact List.prefix_refl _
  | step _ ih => rw [partM_succ]; exact ih.trans (List.prefix_append _ _)
theorem choose_cut {J Jx : List Nat → World → Prop} {L : Nat} {pre : List Nat} {W W0 W' : World} {n l a s k : Nat} (hk : a ≤ k) (hlt : k + l + 1 ≤ n) (h : ChooseP J Jx L (pre ++ partM n l a s (k - a)) (subsM n l (k + 1) (sb s k)) W false W') :
    ChooseP J Jx L pre (subsM n (l + 1) a s) W0 false W' := by
  rcases h with ⟨h, _⟩ | ⟨_, q, hq, hx⟩
  · cases h
  · refine .inr ⟨rfl, partM n l a s (k - a) ++ q, ?_, by rw [← List.append_assoc]; exact hx⟩
    rw [subsM_part]
    refine List.IsPrefix.trans ?_ (partM_pre n l a s (show k - a + 1 ≤ n - l - a by omega))
    rw [partM_succ, show a + (k - a) = k by omega]
    exact (List.prefix_append_right_inj _).2 hq
theorem choose_end {J Jx : List Nat → World → Prop} {L : Nat} {l : List Nat} {W W' : World} {b : Bool} (h : ChooseP J Jx L [] l W b W') : (∃ ys, ys = l ∧ J ys W') ∨ (∃ pre, pre <+: l ∧ Jx pre W') := by
  rcases h with ⟨_, h, _⟩ | ⟨_, q, hq, hx⟩
  · exact .inl ⟨l, rfl, h⟩
  · exact .inr ⟨q, hq, hx⟩
theorem partM_end {n l a s k : Nat} (h1 : a ≤ k) (h2 : k + l ≤ n ∨ k = a) (h3 : ¬ k + l + 1 ≤ n) : partM n l a s (n - l - a) = partM n l a s (k - a) := by
  rcases h2 with h2 | h2
  · rw [show n - l - a = k - a by omega]
  · rw [show n - l - a = 0 by omega, show k - a = 0 by omega]
set_option maxRecDepth 100000 in
set_option maxHeartbeats 2000000 in
theorem choose_any (l L N n Yb Pb Cb B : Nat) (J Jx : List Nat → World → Prop) (hn : n ≤ 40) (hY1 : Yb ≠ L) (hP1 : Pb ≠ L) (hC1 : Cb ≠ L)
    (hJ : AbidesFrom B J)
    (hY : ∀ m pre x W, J pre W → pre.length < N → YieldAt Fence.wide m Try.prog l #[.int .u64 (capB x : Nat)] W fun e W' =>
      (e = .returned (.bool true) ∧ J (pre ++ [x]) W' ∧ KeepsBut L W W') ∨ (e = .returned (.bool false) ∧ Jx (pre ++ [x]) W')) :
    ∀ (left a s : Nat) (pre : List Nat) (W : World), left ≤ 4 → a ≤ 41 → s < 2 ^ n → Boxed W Yb 77 (.func (.yield l) #[] #[]) → Boxed W Pb 3 (.int .i64 (n : Nat)) →
      Boxed W Cb 78 (.func (.func 60) #[] #[.pointer (some ⟨Yb, 0, none⟩), .pointer (some ⟨Pb, 0, none⟩), .pointer (some ⟨Cb, 0, none⟩)]) →
      J pre W → pre.length + (subsM n left a s).length ≤ N →
      Calls Try.prog 60 #[.int .i64 (a : Nat), .int .i64 (left : Nat), .int .u64 (s : Nat), .pointer (some ⟨Yb, 0, none⟩), .pointer (some ⟨Pb, 0, none⟩), .pointer (some ⟨Cb, 0, none⟩)] W
        (ChoosePost J Jx L pre (subsM n left a s) W) := by
  intro left
  induction left with
  | zero =>
    intro a s pre W _ ha hs bY bP bC hj hN
    have hY2 := hY 5 pre s W hj (by rw [subsM_zero] at hN; simp at hN; omega)
    rw [capB_of hs hn] at hY2
    obtain ⟨fn, tmps, assign, body, hy, hR⟩ := hY2
    have cY := bY.cell
    have hdd : ∀ k : Nat, (Fence.wide.depth.isSome = true → 1 ≤ k) := fun k h => by cases h
    refine (callsIn_wide (n := 6)).1 ?_
    refine callsIn_of_wp Try.func60 rfl trivial ?_ rfl
    simp only [Try.ntmps60, List.size_toArray, List.length_cons, List.length_nil, Nat.reduceAdd, Nat.reduceSub, Array.replicate_succ, Array.replicate_zero, List.push_toArray, List.append_toArray, List.nil_append, List.cons_append]
    gi_wp2_with ((try refine ⟨hdd _, ?_⟩); refine hR.mono ?_; rintro e W' (⟨rfl, hJ', hk⟩ | ⟨rfl, hx⟩))
    · go_ret
      exact ⟨true, rfl, .inl ⟨rfl, hJ', hk⟩⟩
    · go_ret
      exact ⟨false, rfl, .inr ⟨rfl, [s], List.prefix_refl _, hx⟩⟩
  | succ left ih =>
    intro a s pre W h4 ha hs bY bP bC hj hN
    have HN : Hid (pre.length + (subsM n (left + 1) a s).length ≤ N) := hN
    have HS := Lib.hid hs
    have BY := Lib.hid bY; have BP := Lib.hid bP; have BC := Lib.hid bC
    have HJ := Lib.hid hj
    have IH := Lib.hid ih
    have HP1 := Lib.hid hP1; have HY1 := Lib.hid hY1; have HC1 := Lib.hid hC1
    clear hN hs bY bP bC hY hj ih hP1 hY1 hC1
    have e0 : (((left : Int) + 1) == 0) = false := by simp; omega
    rw [show (((left + 1 : Nat)) : Int) = (left : Int) + 1 from Int.natCast_succ left]
    go_enter Try.func60, Try.ntmps60
    go_wp2
    clear e0
    go_loopw [10] (fun p wr => ∃ k : Nat, a ≤ k ∧ (k + left ≤ n ∨ k = a) ∧ p = .int .i64 (k : Nat) ∧ J (pre ++ partM n left a s (k - a)) wr ∧ KeepsBut L W wr) (fun p _ => n + 1 - (intOf p).toNat)
    case atStart => exact ⟨a, Nat.le_refl _, .inr rfl, rfl, by rw [Nat.sub_self, partM_zero, List.append_nil]; exact HJ.out, KeepsBut.refl _ _⟩
    case round =>
      obtain ⟨k, hk1, hk2, rfl, hj, hkb⟩ := hrel
      have HJ2 := Lib.hid hj; have HK := Lib.hid hkb
      clear hj hkb
      have cP := (HK.out.boxed BP.out HP1.out).cell
      by_cases hlt : k + left + 1 ≤ n
      · have cC := (HK.out.boxed BC.out HC1.out).cell
        have hk40 : k < n := by omega
        have hsb : sb s k < 2 ^ n := sb_lt HS.out hk40
        have hs64 : s < 18446744073709551616 := by have := HS.out; have : 2 ^ n ≤ 2 ^ 40 := Nat.pow_le_pow_right (by omega) hn; omega
        have hpart : subsM n (left + 1) a s = partM n left a s (n - left - a) := subsM_part n left a s
        have hle : (pre ++ partM n left a s (k - a)).length + (subsM n left (k + 1) (sb s k)).length ≤ N := by
          have h1 := partM_mono n left a s (show k - a + 1 ≤ n - left - a by omega)
          rw [partM_succ, show a + (k - a) = k by omega, List.length_append] at h1
          have h2 := HN.out
          rw [hpart] at h2
          rw [List.length_append]; omega
        have HC : Hid (Calls Try.prog 60 #[.int .i64 ((k : Int) + 1), .int .i64 (left : Int), .int .u64 (sb s k : Nat), .pointer (some ⟨Yb, 0, none⟩), .pointer (some ⟨Pb, 0, none⟩), .pointer (some ⟨Cb, 0, none⟩)] wr.drew
            (ChoosePost J Jx L (pre ++ partM n left a s (k - a)) (subsM n left (k + 1) (sb s k)) wr.drew)) :=
          IH.out (k + 1) (sb s k) _ wr.drew (by omega) (by omega) hsb (HK.out.boxed BY.out HY1.out) (HK.out.boxed BP.out HP1.out) (HK.out.boxed BC.out HC1.out) (hJ _ _ _ none HJ2.out (grownBy_drewN _ 1) (fun r e => by cases e)) hle
        clear hle hpart hsb
        have hor := or_u64 (c := s) (j := k) hs64 (by omega)
        have w1 : IntKind.i64.wrap ((k : Int) + 1) = (k : Int) + 1 := IntWalk.i64_in _ (by omega)
        have w2 : IntKind.i64.wrap (left : Int) = (left : Int) := IntWalk.i64_in _ (by omega)
        go_wp2
        go_still_tail 9, (by kernel_rfl)
        change wpList _ _ _ _ _ wr.drew
        clear hor w1 w2
        go_wp2_with fail
        refine (HC.out).mono ?_
        rintro e W' ⟨b, rfl, hb⟩
        cases b
        · have HB := Lib.hid hb; clear hb
          go_wp2_with fail
          go_ret
          exact ⟨false, rfl, choose_cut hk1 hlt HB.out⟩
        · have HB := Lib.hid hb; clear hb
          go_wp2_with fail
          go_roundw
          case rel => exact ⟨k + 1, by omega, .inl (by omega), by go_num, choose_on hk1 HB.out, (HK.out.trans (KeepsBut.drewN _ _ 1)).trans (choose_kept HB.out)⟩
          case measure => simp [intOf]; omega
      · go_wp2
        go_ret
        exact ⟨true, rfl, .inl ⟨rfl, by rw [subsM_part, partM_end hk1 hk2 hlt]; exact HJ2.out, HK.out⟩⟩

set_option maxRecDepth 100000 in
set_option maxHeartbeats 1000000 in
theorem choices1_any (l L N n t Pb Tb B : Nat) (J Jx : List Nat → World → Prop) (hn : n ≤ 40) (ht : t ≤ 4) (hN : N = (subsM n t 0 0).length) (W : World) (hP1 : Pb ≠ L) (hL : L < W.heap.size) (hJ : AbidesFrom B J)
    (hY : ∀ m pre x W, J pre W → pre.length < N → YieldAt Fence.wide m Try.prog l #[.int .u64 (capB x : Nat)] W fun e W' =>
      (e = .returned (.bool true) ∧ J (pre ++ [x]) W' ∧ KeepsBut L W W') ∨ (e = .returned (.bool false) ∧ Jx (pre ++ [x]) W'))
    (bP : Boxed W Pb 3 (.int .i64 (n : Nat))) (bT : Boxed W Tb 3 (.int .i64 (t : Nat))) (h0 : J [] W) :
    Calls Try.prog 59 #[.func (.yield l) #[] #[], .pointer (some ⟨Pb, 0, none⟩), .pointer (some ⟨Tb, 0, none⟩)] W fun e W' => (∃ v, e = .returned v) ∧
      ((∃ ys, ys = subsM n t 0 0 ∧ J ys W') ∨ (∃ pre, pre <+: subsM n t 0 0 ∧ Jx pre W')) := by
  obtain ⟨W1, hW1⟩ : ∃ W1, (W.alloc (.cells #[.func (.yield l) #[] #[]] 77)).alloc (.cells #[Value.func (.func 60) #[] #[.pointer (some ⟨W.heap.size, 0, none⟩), .pointer (some ⟨Pb, 0, none⟩), .pointer (some ⟨W.heap.size + 1, 0, none⟩)]] 78) = W1 := ⟨_, rfl⟩
  have hPl := bP.lt
  have hTl := bT.lt
  have hg : W.grownBy W1 none := by
    have h : Below W.heap.size W W1 := by rw [← hW1]; exact (((Below.refl _ W).alloc (Nat.le_refl _) _).alloc (by simp) _)
    exact ⟨h.os, h.tape, h.output, h.size, fun k hk _ => h.block k hk⟩
  have bY1 : Boxed W1 W.heap.size 77 (.func (.yield l) #[] #[]) := by
    rw [← hW1]; exact (Boxed.new W _ _).alloc _
  have bC1 : Boxed W1 (W.heap.size + 1) 78 (.func (.func 60) #[] #[.pointer (some ⟨W.heap.size, 0, none⟩), .pointer (some ⟨Pb, 0, none⟩), .pointer (some ⟨W.heap.size + 1, 0, none⟩)]) := by
    rw [← hW1]
    have := (Boxed.new (W.alloc (.cells #[Value.func (.yield l) #[] #[]] 77)) 78 (Value.func (.func 60) #[] #[.pointer (some ⟨W.heap.size, 0, none⟩), .pointer (some ⟨Pb, 0, none⟩), .pointer (some ⟨W.heap.size + 1, 0, none⟩)]))
    rw [World.size_alloc] at this
    exact this
  have bP1 := bP.kept hg (by simp)
  have bT1 := bT.kept hg (by simp)
  have hc := choose_any l L N n W.heap.size Pb (W.heap.size + 1) B J Jx hn (by omega) hP1 (by omega) hJ hY t 0 0 [] W1 ht (by omega) (Nat.two_pow_pos n) bY1 bP1 bC1 (hJ _ _ _ none h0 hg (fun r e => by cases e)) (by simp [hN])
  have HC := Lib.hid hc
  have cC := bC1.cell
  have cT := (bT.kept hg (by simp)).cell
  rw [← hW1] at cC cT
  have HW := Lib.hid hW1
  clear hW1 hc bY1 bC1 bP1 bT1 hY hJ h0 hg hN hP1 hL hPl
  go_enter Try.func59, Try.ntmps59
  go_wp2_with fail
  rw [HW.out]
  refine (HC.out).mono ?_
  rintro e W' ⟨b, rfl, hb⟩
  have HB := Lib.hid hb; clear hb
  go_wp2_with fail
  go_end0
  exact ⟨⟨_, rfl⟩, choose_end HB.out⟩

theorem boxed_below {w W : World} {B : Nat} {t : TypeId} {v : Value} (h : Boxed w B t v) (hb : Below w.heap.size w W) : Boxed W B t v := (hb.block B h.lt).trans h
/-- The iterator's word. -/
theorem choices_stops (q L n t Pb Tb : Nat) (hn : n ≤ 40) (ht : t ≤ 4) (w : World) (hP1 : Pb ≠ L) (hL : L < w.heap.size) (bP : Boxed w Pb 3 (.int .i64 (n : Nat))) (bT : Boxed w Tb 3 (.int .i64 (t : Nat))) :
    SeqStopsK Fence.wide q Try.prog 59 #[.pointer (some ⟨Pb, 0, none⟩), .pointer (some ⟨Tb, 0, none⟩)] (fun x : Nat => #[Value.int .u64 (capB x : Nat)]) (KeepsBut L) (fun ys => ys = subsM n t 0 0) (fun pre => pre <+: subsM n t 0 0) (subsM n t 0 0).length w :=
  fun l J Jx W hW hJ _ hY h0 => callsIn_wide.2 (choices1_any l L _ n t Pb Tb W.heap.size J Jx hn ht rfl W hP1 (Nat.lt_of_lt_of_le hL hW.size) hJ (fun m pre x W hj hl => yieldAt_any rfl m (hY pre x W hj hl)) (boxed_below bP hW) (boxed_below bT hW) h0)
theorem choices_any (n t : Int) (w : World) :
    Calls Try.prog 51 #[.int .i64 n, .int .i64 t] w fun e w' => e = .returned (.func (.func 59) #[] #[.pointer (some ⟨w.heap.size, 0, none⟩), .pointer (some ⟨w.heap.size + 1, 0, none⟩)]) ∧
      w' = (w.alloc (.cells #[.int .i64 n] 3)).alloc (.cells #[.int .i64 t] 3) := by
  go_enter Try.func51, Try.ntmps51
  go_wp2
  go_ret
  exact ⟨rfl, rfl⟩
end Go.Proofs.Ytnmgambilpoeiaa
