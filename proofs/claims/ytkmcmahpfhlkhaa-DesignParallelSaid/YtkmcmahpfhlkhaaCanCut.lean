/-
  Contract: the reference's CanCut. No condition.
-/
import Derived.Test.YtkmcmahpfhlkhaaCut
namespace Go.Proofs.Ytkmcmahpfhlkhaa
open Go.RowKit

theorem cut_any (W0 : World) (n k : Nat) (xss : List (List Int)) (vr : Value) (bd bc : Nat) (hD : IsDes n xss) (hk : k ≤ xss.length) (hr : RowsAt W0 vr (xss.drop k)) (h1 : W0.heap.size ≤ bd) (h2 : W0.heap.size ≤ bc) (hne : bd ≠ bc) :
    ∀ fuel, CutOK W0 n k xss vr bd bc fuel
  | 0 => cut_step W0 n k xss vr bd bc 0 hD hk hr h1 h2 hne (fun f h => by omega)
  | fuel + 1 => cut_step W0 n k xss vr bd bc (fuel + 1) hD hk hr h1 h2 hne (fun f h => by
      obtain rfl : fuel = f := by omega
      exact cut_any W0 n k xss vr bd bc hD hk hr h1 h2 hne fuel)
theorem cntS_all (S : Nat) : ∀ n, cntS S n ≤ n
  | 0 => Nat.le_refl _
  | n + 1 => by have := cntS_all S n; rw [cntS]; split <;> omega
/-- A part of a slice of rows. -/
def slivR (a : Option Addr) (l h m : Nat) : Value := sliced a l h m 1
theorem und_rowsT : Try.prog.underlying 22 = some (.slice (Try.prog.elem 22)) := by kernel_rfl
theorem size_rowT (w : World) : (Go.sizeOf (Try.prog.elem 22)).run Try.prog w = .ok 1 w := by kernel_rfl
theorem run_tailR (w : World) (a : Option Addr) (n c l : Nat) (hl : l ≤ n) :
    (Instr.slice 22 (.slice a n c) (some (.int .i64 (l : Int))) none none).run Try.prog w = .ok (slivR a l n c) w := by
  rw [run_slice_l w 22 a n c und_rowsT .i64 l (by omega) (by omega), size_rowT]
  simp [Result.andThen, slivR]
theorem rowsAt_sliv {w : World} {a : Option Addr} {c : Nat} {xss : List (List Int)} (H : RowsAt w (.slice a xss.length c) xss) {l : Nat} (hl : l ≤ xss.length) :
    RowsAt w (slivR a l xss.length c) (xss.drop l) := by
  obtain ⟨a', c', V, e, h2, h3, h4, h5⟩ := H
  injection e with e1 e2 e3
  subst e1; subst e3
  have hlen : (xss.drop l).length = xss.length - l := List.length_drop
  unfold slivR sliced
  refine ⟨_, c - l, fun i => V (l + i), by rw [hlen], by rw [hlen]; omega, by omega, fun hn => ?_, fun i hi => ?_⟩
  · by_cases e : c = l
    · omega
    · rw [if_neg e] at hn
      cases a with
      | none => have := h4 rfl; omega
      | some p => cases hn
  · rw [hlen] at hi
    obtain ⟨r1, b, o, rfl, hb, hc⟩ := h5 (l + i) (by omega)
    have hrx : rx (xss.drop l) i = rx xss (l + i) := by unfold rx; rw [List.getD_eq_getElem?_getD, List.getD_eq_getElem?_getD, List.getElem?_drop]
    refine ⟨by rw [hrx]; exact r1, b, o + l, ?_, hb, fun j hj => ?_⟩
    · rw [if_neg (by omega)]; simp [Addr.add]
    · rw [hlen] at hj
      rw [Nat.add_assoc]
      exact hc (l + j) (by omega)
/-- All points. -/
def fullS (n : Nat) : Nat := 2 ^ n - 1
theorem tb_full (n y : Nat) : tb (fullS n) y = decide (y < n) := by unfold tb fullS; exact Nat.testBit_two_pow_sub_one n y
theorem full_lt (n : Nat) : fullS n < 2 ^ n := by have := Nat.two_pow_pos n; unfold fullS; omega
/-- What the first blocks of a list leave, if no two meet. -/
def canN (xss : List (List Int)) (n : Nat) (l : List Int) : Nat → Option Nat
  | 0 => some (fullS n)
  | i + 1 => match canN xss n l i with
    | none => none
    | some S => if dn (blkS xss (ix l i).toNat) S = 0 then some (dn S (blkS xss (ix l i).toNat)) else none
theorem canN_none {xss : List (List Int)} {n : Nat} {l : List Int} {i : Nat} (h : canN xss n l i = none) : ∀ {m : Nat}, i ≤ m → canN xss n l m = none
  | 0, hm => by obtain rfl : i = 0 := by omega
                exact h
  | m + 1, hm => by
    by_cases e : i = m + 1
    · subst e; exact h
    · rw [canN, canN_none h (m := m) (by omega)]
theorem canN_lt {xss : List (List Int)} {n : Nat} {l : List Int} : ∀ {i S : Nat}, canN xss n l i = some S → S < 2 ^ n
  | 0, S, h => by rw [canN] at h; injection h with h; subst h; exact full_lt n
  | i + 1, S, h => by
    rw [canN] at h
    cases e : canN xss n l i with
    | none => rw [e] at h; cases h
    | some T =>
      rw [e] at h
      dsimp only at h
      by_cases hc : dn (blkS xss (ix l i).toNat) T = 0
      · rw [if_pos hc] at h; injection h with h; subst h; exact dn_lt (canN_lt e)
      · rw [if_neg hc] at h; cases h
def canB (xss : List (List Int)) (n k : Nat) (l : List Int) : Bool := match canN xss n l l.length with
  | none => false
  | some S => (par (blkS xss) xss.length (xss.length - k) S).isSome

/-- What stands in memory while the flags of the list's blocks are set. -/
structure CanRel (w wr : World) (n : Nat) (v : Value) (g : Nat → Bool) : Prop where
  box : Arr wr w.heap.size 2 (fun j => if j = 0 then .int .i64 (n : Nat) else v)
  done : Flags wr (w.heap.size + 1) n g
  bel : Below w.heap.size w wr
theorem CanRel.put {w wr : World} {n : Nat} {v : Value} {g g' : Nat → Bool} (h : CanRel w wr n v g) {j : Nat} (hj : j < n) (he : ∀ y, y < n → fcell g j true y = g' y) : CanRel w (wr.setCell ⟨w.heap.size + 1, j, none⟩ (.bool true)) n v g' :=
  ⟨h.box.setOther (by show w.heap.size + 1 ≠ _; omega) _, (h.done.putB hj true).congr (fun y hy => by rw [he y hy]), h.bel.setCell (by show _ ≤ w.heap.size + 1; omega) _⟩
theorem CanRel.drewN {w wr : World} {n : Nat} {v : Value} {g : Nat → Bool} (h : CanRel w wr n v g) (m : Nat) : CanRel w (wr.drewN m) n v g := ⟨h.box, h.done, below_drewN h.bel m⟩
theorem canB_none {xss : List (List Int)} {n k : Nat} {l : List Int} (h : canN xss n l l.length = none) : canB xss n k l = false := by unfold canB; rw [h]
theorem canB_some {xss : List (List Int)} {n k : Nat} {l : List Int} {S : Nat} (h : canN xss n l l.length = some S) : canB xss n k l = (par (blkS xss) xss.length (xss.length - k) S).isSome := by unfold canB; rw [h]

theorem made_pair {wr w5 : World} {p q : Value} {T : TypeId} (hg : World.grownBy ((wr.alloc (.cells #[p, q] T)).drew) w5 (Value.ownBlock (.slice none 0 0))) : w5.cell? ⟨wr.heap.size, 0, none⟩ = some p ∧ w5.cell? ⟨wr.heap.size, 1, none⟩ = some q := by
  have hb : Below ((wr.alloc (.cells #[p, q] T)).drew).heap.size ((wr.alloc (.cells #[p, q] T)).drew) w5 := below_grown (v := .slice none 0 0) hg (by intro k hk; cases hk) (Nat.le_refl _)
  have hA := pair_new wr p q T _ rfl
  have hA5 : Arr w5 wr.heap.size 2 (fun j => if j = 0 then p else q) := Arr.below (w := (wr.alloc (.cells #[p, q] T)).drew) hA hb
  exact ⟨hA5.cell (show 0 < 2 by omega), hA5.cell (show 1 < 2 by omega)⟩

set_option maxRecDepth 100000 in
set_option maxHeartbeats 4000000 in
theorem canCut_any (n k : Nat) (v u : Value) (xss : List (List Int)) (l : List Int) (w : World) (h : RowsAt w v xss) (g : IntsAt w u l) (hD : IsDes n xss) (hk : k ≤ xss.length) (hl : l.length ≤ 200) (hr : ∀ i, i < l.length → 0 ≤ ix l i ∧ ix l i < xss.length) :
    Calls Try.prog 33 #[.agg #[.int .i64 n, v], .int .i64 k, u] w fun e w' => e = .returned (.bool (canB xss n k l)) ∧ Below w.heap.size w w' := by
  have hn40 : n ≤ 40 := by have := hD.hi; omega
  have hn1 : 1 ≤ n := by have := hD.lo; omega
  have HD := Lib.hid hD
  have HH := Lib.hid h
  have HG := Lib.hid g
  have HR := Lib.hid hr
  obtain ⟨b0', hb0, hbz, hbs, hbb⟩ := info_parts info_bool
  have HBx := Lib.hid (below_box w (.cells #[.int .i64 n, v] 24))
  have HA1 := Lib.hid (pair_new w (.int .i64 n) v 24 _ rfl)
  have hf200 := hD.few
  obtain ⟨a, c, V, rfl, q1, q2, _, q3⟩ := h
  obtain ⟨a2, c2, rfl, p1, p2, _, p3⟩ := g
  have HX := Lib.hid q3
  have HY := Lib.hid p3
  clear hD hr q3 p3
  go_enter Try.func33, Try.ntmps33
  go_wp2_with (at_make; go_must (refine wpList_make_full _ rfl _ _ _ rfl (w.heap.size + 1) 4 b0' _ 1 Try.underlying68 hb0 hbz hbs _ _ _ _ n rfl rfl rfl rfl (by rw [hbb]; omega) (by unfold maxLen; omega) (by simp) ?_; intro w2 hown2 hgrow2))
  have HB2 : Hid (Below (w.alloc (.cells #[.int .i64 n, .slice a xss.length c] 24)).heap.size (w.alloc (.cells #[.int .i64 n, .slice a xss.length c] 24)) w2) := below_grown (v := .slice none 0 0) hgrow2 (by intro k hk; cases hk) (Nat.le_refl _)
  have HR0 : Hid (CanRel w w2 n (.slice a xss.length c) (fun y => !tb (fullS n) y)) := by
    have hF := flags_of_made hown2
    rw [World.size_alloc] at hF
    refine ⟨HA1.out.below HB2.out, hF.congr (fun y hy => ?_), belowTrans HBx.out HB2.out⟩
    show Value.bool false = Value.bool (!tb (fullS n) y)
    rw [tb_full, decide_eq_true hy]; rfl
  clear hown2 hgrow2
  go_wp2_with fail
  go_loopw [8] (fun si wr => ∃ (i S : Nat), i ≤ l.length ∧ si = .int .i64 i ∧ canN xss n l i = some S ∧ CanRel w wr n (.slice a xss.length c) (fun y => !tb S y)) (fun si _ => l.length - (intOf si).toNat)
  case atStart => exact ⟨0, _, by omega, rfl, rfl, HR0.out⟩
  case round =>
    clear HR0 HB2
    obtain ⟨i, S, hi, rfl, hcan, hR⟩ := hrel
    have HCan := Lib.hid hcan
    have HRl := Lib.hid hR
    have HSl := Lib.hid (canN_lt hcan)
    have b0 := hR.box.cell (show 0 < 2 by omega); have b1 := hR.box.cell (show 1 < 2 by omega)
    clear hcan hR
    by_cases hil : i < l.length
    · obtain ⟨lb, lo, rfl, hlb, hlc⟩ := HY.out i hil
      have cl := hlc i hil
      rw [← (bcell HRl.out.bel).1 _ _ hlb] at cl
      have hqr := HR.out i hil
      obtain ⟨q, hq⟩ := Int.eq_ofNat_of_zero_le hqr.1
      rw [hq] at cl hqr
      have hqn : q < xss.length := by omega
      obtain ⟨hrow, b, o, rfl, hbb, hcc⟩ := HX.out q hqn
      have cV := hcc q hqn
      rw [← (bcell HRl.out.bel).1 _ _ hbb] at cV
      have HBk := Lib.hid (HD.out.all q hqn)
      have HIW : Hid (∀ W, Below w.heap.size w W → IntsAt W (V q) (rx xss q)) := fun W hW => hrow.below hW
      obtain ⟨va, vc, hV, _⟩ := id hrow
      rw [hV] at cV HIW
      have HStep : Hid (canN xss n l (i + 1) = if dn (setOf (rx xss q)) S = 0 then some (dn S (setOf (rx xss q))) else none) := by
        show _ = _
        rw [canN, HCan.out, hq]; rfl
      have i1 : ((i : Nat) : Int) < ((l.length : Nat) : Int) := by omega
      have i2 : ((q : Nat) : Int) < ((xss.length : Nat) : Int) := by omega
      clear hrow hcc hV hlc hq hlb
      have hbl40 : (rx xss q).length ≤ 40 := block_len HBk.out (by omega)
      generalize rx xss q = bl at *
      go_wp2_with fail
      go_quiet (fail)
      clear i1 i2 cl cV b0 b1
      go_wp2_with fail
      go_loopw [10] (fun sj wr => ∃ j : Nat, j ≤ bl.length ∧ sj = .int .i64 j ∧ (∀ j', j' < j → tb S (ix bl j').toNat = true) ∧ CanRel w wr n (.slice (some ⟨b, o, none⟩) xss.length c) (fun y => !tb S y || mem (bl.take j) (y : Int))) (fun sj _ => bl.length - (intOf sj).toNat)
      case atStart => exact ⟨0, by omega, rfl, (fun j' h => by omega), (HRl.out.drewN _).box, (HRl.out.drewN _).done.congr (fun y _ => by simp [mem]), (HRl.out.drewN _).bel⟩
      case round =>
        obtain ⟨j, hj, rfl, hall, hR⟩ := hrel
        have HAll := Lib.hid hall
        have HRj := Lib.hid hR
        have HIq := Lib.hid (HIW.out wr hR.bel)
        clear hall hR
        by_cases hjl : j < bl.length
        · obtain ⟨_, _, ev, _, _, _, h5⟩ := HIq.out
          injection ev with ev1 ev2 ev3
          subst ev1; subst ev3
          clear ev2
          obtain ⟨bb, oo, rfl, hbbb, hc5⟩ := h5 j hjl
          have cj := hc5 j hjl
          have hrj := HBk.out.rng j hjl
          obtain ⟨y, hy⟩ := Int.eq_ofNat_of_zero_le hrj.1
          have hfresh : mem (bl.take j) (y : Int) = false := by
            cases e : mem (bl.take j) (y : Int)
            · rfl
            · rw [mem_iff] at e
              obtain ⟨t, ht, e⟩ := ix_of_mem e
              rw [List.length_take] at ht
              have h3 := inc_lt HBk.out.inc (show t < j by omega) hjl
              rw [ix_take (by omega)] at e
              omega
          have hmemy : tb (setOf bl) y = true := by
            have h3 := ix_mem hjl
            rw [hy] at h3
            rw [tb_setOf HBk.out, mem_iff]; exact h3
          rw [hy] at cj hrj
          have hyn : y < n := by omega
          have hyi : (y : Int) < (n : Int) := by omega
          have cy := Arr.cell HRj.out.done hyn
          have cf := Arr.free HRj.out.done hyn
          have HQ2 : Hid (CanRel w (wr.setCell ⟨w.heap.size + 1, y, none⟩ (.bool true)) n (.slice (some ⟨b, o, none⟩) xss.length c) (fun y => !tb S y || mem (bl.take (j + 1)) (y : Int))) := HRj.out.put hyn (fun u _ => by
            unfold fcell
            rw [mem_take _ hjl, hy]
            by_cases e : u = y
            · subst e; rw [if_pos rfl]; simp
            · rw [if_neg e]
              have : (((y : Nat) : Int) == (u : Int)) = false := by simp; omega
              rw [this, Bool.or_false])
          have HY2 := Lib.hid hy
          clear hc5 h5 hy
          dsimp only at cy
          rw [hfresh] at cy
          cases e : tb S y
          · have HNo : Hid (canB xss n k l = false) := by
              refine canB_none (canN_none (i := i + 1) ?_ (by omega))
              rw [HStep.out, if_neg]
              intro h0
              have := (dn_zero (by omega) (setOf_lt HBk.out) HSl.out).1 h0 y hyn hmemy
              rw [e] at this; cases this
            rw [e] at cy
            clear e hfresh hmemy
            go_wp2_with fail
            go_ret
            exact ⟨ret_bool HNo.out.symm, HRj.out.bel⟩
          · have HA2 : Hid (∀ j', j' < j + 1 → tb S (ix bl j').toNat = true) := fun j' hj' => by
              by_cases e2 : j' = j
              · subst e2; rw [HY2.out]; exact e
              · exact HAll.out j' (by omega)
            rw [e] at cy
            clear e hfresh hmemy
            go_wp2_with fail
            go_roundw
            case rel => exact ⟨j + 1, by omega, by go_num, HA2.out, HQ2.out⟩
            case measure => simp [intOf]; omega
        · obtain rfl : j = bl.length := by omega
          have hsub : dn (setOf bl) S = 0 := (dn_zero (by omega) (setOf_lt HBk.out) HSl.out).2 fun y hy h => by
            rw [tb_setOf HBk.out, mem_iff] at h
            obtain ⟨t, ht, e⟩ := ix_of_mem h
            have := HAll.out t ht
            rw [e] at this; exact this
          have HNext : Hid (canN xss n l (i + 1) = some (dn S (setOf bl))) := by show _ = _; rw [HStep.out, if_pos hsub]
          have HRn : Hid (CanRel w wr n (.slice (some ⟨b, o, none⟩) xss.length c) (fun y => !tb (dn S (setOf bl)) y)) := ⟨HRj.out.box, HRj.out.done.congr (fun y hy => by
            show Value.bool (!tb S y || mem (bl.take bl.length) (y : Int)) = Value.bool (!tb (dn S (setOf bl)) y)
            rw [List.take_length, tb_dn (Nat.lt_of_lt_of_le HSl.out (Nat.le_trans (pow60 (by omega)) (by omega))) (Nat.lt_of_lt_of_le (setOf_lt HBk.out) (Nat.le_trans (pow60 (by omega)) (by omega))), tb_setOf HBk.out]
            cases tb S y <;> cases mem bl (y : Int) <;> rfl), HRj.out.bel⟩
          clear hsub
          go_wp2_with fail
          go_roundw
          case rel => exact ⟨i + 1, _, by omega, by go_num, HNext.out, HRn.out⟩
          case measure => simp [intOf]; omega
    · obtain rfl : i = l.length := by omega
      obtain ⟨ra, rc, hs⟩ : ∃ ra rc, slivR a k xss.length c = .slice ra (xss.length - k) rc := ⟨_, _, rfl⟩
      have hRs := rowsAt_sliv HH.out hk
      rw [hs] at hRs
      have HRs := Lib.hid hRs
      have hsl : ∀ W, (Instr.slice 22 (.slice a xss.length c) (some (.int .i64 (k : Int))) none none).run Try.prog W = .ok (.slice ra (xss.length - k) rc) W := fun W => by rw [← hs]; exact run_tailR W a xss.length c k hk
      have HCB := Lib.hid (canB_some (k := k) HCan.out)
      have hM200 : xss.length - k ≤ 200 := by omega
      clear hs hRs
      generalize hMM : xss.length - k = M at *
      have HMM := Lib.hid hMM
      clear hMM
      have hwz : w.heap.size < wr.heap.size := HRl.out.box.lt
      go_wp2_with fail
      go_region
      all_goals
        clear hsl b0 b1
        have HR4 : Hid (CanRel w ((wr.alloc (.cells #[.int .i64 n, .slice ra M rc] 24)).drew) n (.slice a xss.length c) (fun y => !tb S y)) := ⟨HRl.out.box.alloc _, HRl.out.done.alloc _, (HRl.out.bel.alloc (by omega) _).drew⟩
        go_wp2_with (at_make; go_must (refine wpList_make_full _ rfl _ _ _ rfl (wr.heap.size + 1) 4 b0' _ 1 Try.underlying68 hb0 hbz hbs _ _ _ _ M rfl rfl rfl rfl (by rw [hbb]; omega) (by unfold maxLen; omega) (by simp) ?_; intro w5 hown5 hgrow5; obtain ⟨r0, r1⟩ := made_pair hgrow5))
        have HB5 : Hid (Below ((wr.alloc (.cells #[.int .i64 n, .slice ra M rc] 24)).drew).heap.size ((wr.alloc (.cells #[.int .i64 n, .slice ra M rc] 24)).drew) w5) := below_grown (v := .slice none 0 0) hgrow5 (by intro k hk; cases hk) (Nat.le_refl _)
        have HF5 : Hid (Flags w5 (wr.heap.size + 1) M (fun _ => false)) := by
          have hF := flags_of_made hown5
          have e5 : ((wr.alloc (.cells #[.int .i64 n, .slice ra M rc] 24)).drew).heap.size = wr.heap.size + 1 := World.size_alloc _ _
          rw [e5] at hF
          exact hF
        have HD5 : Hid (Flags w5 (w.heap.size + 1) n (fun y => !tb S y)) := HR4.out.done.below HB5.out
        have HW5 := Lib.hid (belowTrans HR4.out.bel HB5.out)
        clear hown5 hgrow5
        have hcut := cut_any w n k xss (.slice ra M rc) (w.heap.size + 1) (wr.heap.size + 1) HD.out hk HRs.out (by omega) (by omega) (by omega) n S (fun _ => false) w5 HSl.out (cntS_all S n) HW5.out HD5.out (by rw [HMM.out]; exact HF5.out)
        rw [HMM.out] at hcut
        have HCut := Lib.hid hcut
        clear hcut
        go_wp2_with fail
        refine (HCut.out).mono ?_
        rintro e w6 ⟨rfl, hk6, _, _⟩
        have H6 := Lib.hid (Keep2.below HW5.out hk6 (by omega) (by omega))
        clear hk6 r0 r1
        go_wp2_with fail
        go_ret
        exact ⟨ret_bool HCB.out.symm, H6.out⟩
end Go.Proofs.Ytkmcmahpfhlkhaa
