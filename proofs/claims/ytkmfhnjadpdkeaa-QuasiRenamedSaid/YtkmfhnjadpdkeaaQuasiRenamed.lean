/-
  The walk of QuasiRenamed: it returns true, and what there was is as it was. No condition.
-/
import Derived.StillTailTactics
import Derived.Test.YtkmfhnjadpdkeaaAlikeOf
import Derived.Test.YtkmfhnjadpdkeaaRenLaw
import Derived.Test.YtkmfhnjadpdkeaaLatin5
import Derived.Test.YtkmfhnjadpdkeaaQuasiFact
import Derived.Deep.OwnRows
namespace Go.Proofs.Ytkmfhnjadpdkeaa
open Go.RowKit

/-- What stands in memory: the square's box, the other square (block bs) and its cells (block bn). -/
structure RenRel (w wr : World) (bs bn n N : Nat) (v : Value) (f : Nat → Int) : Prop where
  box : Arr wr w.heap.size 2 (fun j => if j = 0 then .int .i64 n else v)
  sq : Arr wr bs 2 (fun j => if j = 0 then .int .i64 n else .slice (some ⟨bn, 0, none⟩) N N)
  nums : Nums wr bn N f
  bel : Below w.heap.size w wr
  lo : w.heap.size < bn
  lo2 : w.heap.size < bs
  ne : bn ≠ bs
theorem RenRel.put {w wr : World} {bs bn n N : Nat} {v : Value} {f : Nat → Int} (h : RenRel w wr bs bn n N v f) {j : Nat} (hj : j < N) (x : Int) : RenRel w (wr.setCell ⟨bn, j, none⟩ (.int .i64 x)) bs bn n N v (fun i => if i = j then x else f i) :=
  ⟨h.box.setOther (by have := h.lo; show bn ≠ _; omega) _, h.sq.setOther h.ne _, h.nums.set hj x, h.bel.setCell (by have := h.lo; show _ ≤ bn; omega) _, h.lo, h.lo2, h.ne⟩
theorem RenRel.below {w wr w' : World} {bs bn n N : Nat} {v : Value} {f : Nat → Int} (h : RenRel w wr bs bn n N v f) (hb : Below wr.heap.size wr w') : RenRel w w' bs bn n N v f :=
  ⟨h.box.below hb, h.sq.below hb, h.nums.below hb, belowTrans h.bel hb, h.lo, h.lo2, h.ne⟩
theorem pair_at (w : World) (p q : Value) (t : TypeId) (b : Nat) (hb : b = w.heap.size) : Arr (w.alloc (.cells #[p, q] t)) b 2 (fun j => if j = 0 then p else q) := by
  subst hb
  refine ⟨by simp, fun i hi => ⟨?_, World.frozen?_alloc_new _ _ _ _⟩⟩
  rw [World.cell?_alloc_new]
  rcases i with _ | _ | i
  · rfl
  · rfl
  · omega
theorem ren_a {w w3 : World} {n N : Nat} {v : Value} (hA : Arr w3 w.heap.size 2 (fun j => if j = 0 then .int .i64 (n : Nat) else v)) (hb : Below w.heap.size w w3) (MC : Array Value) (hMC : MC = madeCells #[Value.int .i64 0] N) :
    RenRel w ((w3.alloc (.cells #[.int .i64 (n : Nat), .slice (some ⟨w3.heap.size + 1, 0, none⟩) N N] 24)).alloc (.cells MC 3)).drew w3.heap.size (w3.heap.size + 1) n N v (fun _ => 0) := by
  rw [madeCells_one] at hMC
  have hlt := hA.lt
  exact ⟨(hA.alloc _).alloc _, (pair_at _ _ _ _ _ rfl).alloc _, Arr.newAt _ N _ _ _ _ (by simp) hMC, ((hb.alloc (by omega) _).alloc (by simp; omega) _).drew, by omega, by omega, by omega⟩
theorem ren_b {w w3 : World} {n N : Nat} {v : Value} (hA : Arr w3 w.heap.size 2 (fun j => if j = 0 then .int .i64 (n : Nat) else v)) (hb : Below w.heap.size w w3) (MC : Array Value) (hMC : MC = madeCells #[Value.int .i64 0] N) :
    RenRel w ((w3.alloc (.cells MC 3)).alloc (.cells #[.int .i64 (n : Nat), .slice (some ⟨w3.heap.size, 0, none⟩) N N] 24)).drew (w3.heap.size + 1) w3.heap.size n N v (fun _ => 0) := by
  rw [madeCells_one] at hMC
  have hlt := hA.lt
  exact ⟨(hA.alloc _).alloc _, pair_at _ _ _ _ _ (by simp), (Arr.newAt _ N _ _ _ _ rfl hMC).alloc _, ((hb.alloc (by omega) _).alloc (by simp; omega) _).drew, by omega, by omega, by omega⟩

/-- What Alike hands back where there are names. -/
def RenPost (zs : List Int) (w : World) : Ending → World → Prop := fun e w' => ∃ a l c, e = .returned (.tuple #[.slice (some a) l c, .int .i64 0]) ∧ IntsAt w' (.slice (some a) l c) zs ∧ Below w.heap.size w w'

set_option maxRecDepth 100000 in
set_option maxHeartbeats 4000000 in
theorem quasiRenamed_walk (s : Int) (v : Value) (xs : List Int) (u : Value) (ps : List Int) (w : World)
    (hs : -9223372036854775808 ≤ s ∧ s ≤ 9223372036854775807) (h : IntsAt w v xs) (_ : Fits xs) (g : IntsAt w u ps) (_ : Fits ps) :
    Calls Try.prog 12 #[.agg #[.int .i64 s, v], u] w fun e w' => e = .returned (.bool true) ∧ Below w.heap.size w w' := by
  have HB0 := Lib.hid (below_box w (.cells #[.int .i64 s, v] 24))
  have HI := Lib.hid (h.below HB0.out)
  have HJ := Lib.hid (g.below HB0.out)
  have HI0 := Lib.hid h
  have HJ0 := Lib.hid g
  have HX0 := Lib.hid (pair_at w (.int .i64 s) v 24 _ rfl)
  clear h g
  by_cases l1 : latinFault s xs = 0
  · have e1 : (latinFault s xs != 0) = false := by simpa using l1
    have HL := Lib.hid (latin_of l1)
    obtain ⟨n, rfl⟩ := Int.eq_ofNat_of_zero_le (show 0 ≤ s by have := HL.out.lo; omega)
    have hn8 : n ≤ 8 := by have := HL.out.hi; omega
    have hn1 : 1 ≤ n := by have := HL.out.lo; omega
    clear l1
    go_enter Try.func12, Try.ntmps12
    go_wp2_with fail
    refine (quasiFact_any _).mono ?_
    rintro e w1 ⟨rfl, hb1⟩
    have HB1 := Lib.hid hb1
    obtain ⟨hz, k0, k1⟩ := box1 hb1
    clear hb1
    go_wp2_with fail
    refine (latinFault_any _ _ xs _ (HI.out.below HB1.out) hs).mono ?_
    rintro e w2 ⟨rfl, hb2⟩
    have HB2 := Lib.hid (belowTrans HB1.out hb2)
    clear hb2 hz k0 k1
    go_wp2_with fail
    refine (permFaultQ_any _ ps _ (HJ.out.below HB2.out)).mono ?_
    rintro e w3 ⟨z, rfl, hz, nd, hw3⟩
    have HB3 := Lib.hid (below_drewN HB2.out nd)
    rw [← hw3] at HB3
    have HZ := Lib.hid hz
    obtain ⟨x0, k0, k1⟩ := box1 HB3.out
    obtain ⟨ua, uc, eu, _⟩ := HJ0.out
    subst eu
    have HBW := Lib.hid (belowTrans HB0.out HB3.out)
    clear hz hw3
    by_cases h0 : z = 0
    · have HPQ := Lib.hid (HZ.out h0)
      subst h0
      by_cases hl : ps.length = n
      · have HL2 := Lib.hid hl
        have e2 : (((ps.length : Nat) : Int) != (n : Int)) = false := by rw [hl]; simp
        by_cases h6 : n ≤ 6
        · have e3 : decide ((6 : Int) < (n : Int)) = false := by simp; omega
          have e3' : decide (6 < n) = false := by simp; omega
          have HN : Hid (xs.length = n * n) := HL.out.lenN
          have hl64 : xs.length ≤ 64 := by have := HL.out.lenN; have : n * n ≤ 8 * 8 := Nat.mul_le_mul hn8 hn8; omega
          obtain ⟨MC, hMC⟩ : ∃ MC, MC = madeCells #[Value.int .i64 0] xs.length := ⟨_, rfl⟩
          have hmk := fun W => run_make_row' (P := Try.prog) 22 3 (.int .i64 0) 8 Try.underlying22 info_int rfl .i64 .i64 xs.length (by omega) (by omega) W
          rw [← hMC] at hmk
          have HA3 := Lib.hid (HX0.out.below HB3.out)
          obtain ⟨va, vc, ev, _⟩ := HI0.out
          subst ev
          have HRA : Hid (RenRel w ((w3.alloc (.cells #[.int .i64 (n : Nat), .slice (some ⟨w3.heap.size + 1, 0, none⟩) xs.length xs.length] 24)).alloc (.cells MC 3)).drew w3.heap.size (w3.heap.size + 1) n xs.length (.slice va xs.length vc) (rfill n xs ps 0)) := ren_a HA3.out HBW.out MC hMC
          have HRB : Hid (RenRel w ((w3.alloc (.cells MC 3)).alloc (.cells #[.int .i64 (n : Nat), .slice (some ⟨w3.heap.size, 0, none⟩) xs.length xs.length] 24)).drew (w3.heap.size + 1) w3.heap.size n xs.length (.slice va xs.length vc) (rfill n xs ps 0)) := ren_b HA3.out HBW.out MC hMC
          have h6' : n ≤ 6 := h6
          clear hMC hl h6
          go_wp2_with fail
          go_region
          all_goals
            clear hmk
            obtain ⟨W1, hW1⟩ : ∃ W1, W1 = ((w3.alloc (.cells #[.int .i64 (n : Int), .slice (some ⟨w3.heap.size + 1, 0, none⟩) xs.length xs.length] 24)).alloc (.cells MC 3)).drew := ⟨_, rfl⟩
            obtain ⟨W2, hW2⟩ : ∃ W2, W2 = ((w3.alloc (.cells MC 3)).alloc (.cells #[.int .i64 (n : Int), .slice (some ⟨w3.heap.size, 0, none⟩) xs.length xs.length] 24)).drew := ⟨_, rfl⟩
            rw [← hW1] at HRA
            rw [← hW2] at HRB
            first
            | (rw [← hW1]; clear hW1 hW2 HRB W2; have HR := HRA; clear HRA; generalize w3.heap.size + 1 = bn at HR ⊢; generalize w3.heap.size = bs at HR ⊢)
            | (rw [← hW2]; clear hW1 hW2 HRA W1; have HR := HRB; clear HRB; generalize w3.heap.size + 1 = bs at HR ⊢; generalize w3.heap.size = bn at HR ⊢)
            | fail
            clear k0 k1 x0 e1 e2 e3 e3'
            go_wp2_with fail
            go_loopw [9] (fun sx wr => ∃ x : Nat, x ≤ n ∧ sx = .int .i64 x ∧ RenRel w wr bs bn n xs.length (.slice va xs.length vc) (rfill n xs ps (x * n))) (fun sx _ => n - (intOf sx).toNat)
            case atStart => exact ⟨0, by omega, rfl, by rw [Nat.zero_mul]; exact HR.out⟩
            case round =>
              clear HR
              obtain ⟨x, hx, rfl, hR⟩ := hrel
              have HR := Lib.hid hR
              have b0 := hR.box.cell (show 0 < 2 by omega); have b1 := hR.box.cell (show 1 < 2 by omega)
              clear hR
              by_cases hlt : x < n
              · go_wp2_with fail
                clear b0 b1
                go_loopw [10] (fun sy wr => ∃ y : Nat, y ≤ n ∧ sy = .int .i64 y ∧ RenRel w wr bs bn n xs.length (.slice va xs.length vc) (rfill n xs ps (x * n + y))) (fun sy _ => n - (intOf sy).toNat)
                case atStart => exact ⟨0, by omega, rfl, HR.out⟩
                case round =>
                  clear HR
                  obtain ⟨y, hy, rfl, hR⟩ := hrel
                  have HR := Lib.hid hR
                  have b0 := hR.box.cell (show 0 < 2 by omega); have b1 := hR.box.cell (show 1 < 2 by omega)
                  clear hR
                  by_cases hly : y < n
                  · have HAt := Lib.hid (at_lat HL.out hlt hly _ wr (HI0.out.below HR.out.bel))
                    go_wp2_with fail
                    refine (HAt.out).mono ?_
                    rintro e w4 ⟨rfl, hb4⟩
                    have HR4 := Lib.hid (HR.out.below hb4)
                    clear hb4 b0 b1 HAt
                    have b0 := HR4.out.box.cell (show 0 < 2 by omega)
                    have b1 := HR4.out.box.cell (show 1 < 2 by omega)
                    have s1 := HR4.out.sq.cell (show 1 < 2 by omega)
                    have hzn := qn_lt HL.out hlt hly
                    have hA := pn_lt HPQ.out HL2.out hlt
                    have hB := pn_lt HPQ.out HL2.out hly
                    have hC := pn_lt HPQ.out HL2.out hzn
                    have HPl : Hid (pn ps x * n + pn ps y < xs.length) := by show _ < _; rw [HN.out]; exact place_lt hA hB
                    have HPut : Hid (∀ W, RenRel w W bs bn n xs.length (.slice va xs.length vc) (rfill n xs ps (x * n + y)) → RenRel w (W.setCell ⟨bn, pn ps x * n + pn ps y, none⟩ (.int .i64 (pn ps (qn n xs x y) : Nat))) bs bn n xs.length (.slice va xs.length vc) (rfill n xs ps (x * n + (y + 1)))) := fun W hW => by
                      have e : rfill n xs ps (x * n + (y + 1)) = fun i => if i = pn ps x * n + pn ps y then ((pn ps (qn n xs x y) : Nat) : Int) else rfill n xs ps (x * n + y) i := by
                        funext j
                        show rfill n xs ps (x * n + y + 1) j = _
                        rw [rfill]
                        unfold renAt
                        rw [place_div hly, place_mod hly]
                      rw [e]
                      exact hW.put HPl.out _
                    obtain ⟨_, _, eu, _, _, _, hcc⟩ := HJ0.out
                    injection eu with eu1 eu2 eu3
                    subst eu1; subst eu3
                    clear eu2
                    obtain ⟨b, o, rfl, hbb, hc⟩ := hcc x (by rw [HL2.out]; exact hlt)
                    have cx := hc x (by rw [HL2.out]; exact hlt)
                    have cy := hc y (by rw [HL2.out]; exact hly)
                    have cz := hc (qn n xs x y) (by rw [HL2.out]; exact hzn)
                    rw [pn_ix HPQ.out HL2.out hlt, ← (bcell HR4.out.bel).1 _ _ hbb] at cx
                    rw [pn_ix HPQ.out HL2.out hly, ← (bcell HR4.out.bel).1 _ _ hbb] at cy
                    rw [pn_ix HPQ.out HL2.out hzn, ← (bcell HR4.out.bel).1 _ _ hbb] at cz
                    have n1 := HR4.out.nums.cell HPl.out
                    have n2 := HR4.out.nums.free HPl.out
                    have i1 : ((x : Nat) : Int) < ((ps.length : Nat) : Int) := by rw [HL2.out]; omega
                    have i2 : ((y : Nat) : Int) < ((ps.length : Nat) : Int) := by rw [HL2.out]; omega
                    have i3 : ((qn n xs x y : Nat) : Int) < ((ps.length : Nat) : Int) := by rw [HL2.out]; omega
                    have hpl := HPl.out
                    clear hc hcc hbb
                    generalize pn ps (qn n xs x y) = C at *
                    generalize qn n xs x y = z at *
                    generalize pn ps y = B at *
                    generalize pn ps x = A at *
                    generalize rfill n xs ps (x * n + y) (A * n + B) = F at *
                    have hq64 : A * n ≤ 64 := Nat.mul_le_mul (show A ≤ 8 by omega) hn8
                    have hw1 : IntKind.i64.wrap ((A : Int) * (n : Int)) = ((A * n : Nat) : Int) := by
                      rw [← Int.natCast_mul]
                      exact IntWalk.i64_in _ ⟨by omega, by omega⟩
                    generalize A * n = q at *
                    obtain ⟨P, hP⟩ : ∃ P, P = q + B := ⟨_, rfl⟩
                    have hw2 : IntKind.i64.wrap ((q : Int) + (B : Int)) = (P : Int) := by rw [IntWalk.i64_in _ (by omega)]; omega
                    rw [← hP] at n1 n2 hpl HPut
                    have i4 : ((P : Nat) : Int) < ((xs.length : Nat) : Int) := by omega
                    clear hP
                    go_wp2_with fail
                    go_still_tail 19, (by kernel_rfl)
                    change wpList _ _ _ _ _ w4.drew
                    clear hw1 hw2 cx cy cz i1 i2 i3 i4
                    go_wp2_with fail
                    go_roundw
                    case rel => exact ⟨y + 1, by omega, by go_num, HPut.out _ (HR4.out.below (below_D _ 1))⟩
                    case measure => simp [intOf]; omega
                  · obtain rfl : y = n := by omega
                    have HR2 : Hid (RenRel w wr bs bn y xs.length (.slice va xs.length vc) (rfill y xs ps ((x + 1) * y))) := by
                      have := HR.out
                      rw [← Nat.succ_mul] at this; exact this
                    go_wp2_with fail
                    go_roundw
                    case rel => exact ⟨x + 1, by omega, by go_num, HR2.out⟩
                    case measure => simp [intOf]; omega
              · obtain rfl : x = n := by omega
                have b0 := HR.out.box.cell (show 0 < 2 by omega); have b1 := HR.out.box.cell (show 1 < 2 by omega)
                have s0 := HR.out.sq.cell (show 0 < 2 by omega); have s1 := HR.out.sq.cell (show 1 < 2 by omega)
                have HRL := Lib.hid (ren_latin HL.out HPQ.out HL2.out)
                have HI1 : Hid (∀ W, Below wr.heap.size wr W → IntsAt W (.slice va xs.length vc) xs) := fun W hW => (HI0.out.below HR.out.bel).below hW
                have HI2' : Hid (IntsAt wr (.slice (some ⟨bn, 0, none⟩) xs.length xs.length) (renL x xs ps)) := by
                  refine ⟨some ⟨bn, 0, none⟩, xs.length, by rw [renL_len, ← HN.out], by rw [renL_len, ← HN.out]; omega, by omega, (fun h => by cases h), fun i hi => ⟨bn, 0, rfl, HR.out.nums.lt, fun j hj => ?_⟩⟩
                  rw [renL_len] at hj
                  rw [Nat.zero_add, renL_ix hj]
                  exact HR.out.nums.cell (by rw [HN.out]; exact hj)
                have HI2 : Hid (∀ W, Below wr.heap.size wr W → IntsAt W (.slice (some ⟨bn, 0, none⟩) xs.length xs.length) (renL x xs ps)) := fun W hW => HI2'.out.below hW
                obtain ⟨za, hza⟩ := Option.isSome_iff_exists.1 (ren_found HPQ.out HL2.out)
                obtain ⟨zb, hzb⟩ := Option.isSome_iff_exists.1 (ren_back HL.out HPQ.out HL2.out)
                have qa := firR_some hza (fun y hy => by simp at hy)
                have qb := firR_some hzb (fun y hy => by simp at hy)
                have HQA : Hid (namB x xs (renL x xs ps) za = true ∧ za.length = x ∧ ∀ k, k < za.length → 0 ≤ ix za k ∧ ix za k < x) := ⟨qa.1, by rw [qa.2.1]; simp, fun k hk => qa.2.2 _ (ix_mem hk)⟩
                have HQB : Hid (namB x (renL x xs ps) xs zb = true ∧ zb.length = x ∧ ∀ k, k < zb.length → 0 ≤ ix zb k ∧ ix zb k < x) := ⟨qb.1, by rw [qb.2.1]; simp, fun k hk => qb.2.2 _ (ix_mem hk)⟩
                have HAl1 : Hid (∀ W, IntsAt W (.slice va xs.length vc) xs → IntsAt W (.slice (some ⟨bn, 0, none⟩) xs.length xs.length) (renL x xs ps) → Calls Try.prog 39 #[.agg #[.int .i64 x, .slice va xs.length vc], .agg #[.int .i64 x, .slice (some ⟨bn, 0, none⟩) xs.length xs.length]] W (RenPost za W)) := fun W h g => (alike_ok x _ _ xs (renL x xs ps) W h g HL.out HRL.out h6').mono (fun e w' hp => by unfold AlikePost at hp; rw [hza] at hp; exact hp)
                have HAl2 : Hid (∀ W, IntsAt W (.slice va xs.length vc) xs → IntsAt W (.slice (some ⟨bn, 0, none⟩) xs.length xs.length) (renL x xs ps) → Calls Try.prog 39 #[.agg #[.int .i64 x, .slice (some ⟨bn, 0, none⟩) xs.length xs.length], .agg #[.int .i64 x, .slice va xs.length vc]] W (RenPost zb W)) := fun W h g => (alike_ok x _ _ (renL x xs ps) xs W g h HRL.out HL.out h6').mono (fun e w' hp => by unfold AlikePost at hp; rw [hzb] at hp; exact hp)
                clear hza hzb qa qb
                go_wp2_with fail
                refine (HAl1.out _ (HI1.out _ (Below.refl _ _)) (HI2.out _ (Below.refl _ _))).mono ?_
                rintro e w5 ⟨pa, pl, pc, rfl, hr, hb⟩
                have H5 := Lib.hid hb
                have HRa := Lib.hid hr
                obtain ⟨_, _, ep, _⟩ := hr
                injection ep with ep1 ep2 ep3
                subst ep2
                clear ep1 ep3 hb b0 b1 s0 s1
                have hR5 := HR.out.below H5.out
                have b0 := hR5.box.cell (show 0 < 2 by omega); have b1 := hR5.box.cell (show 1 < 2 by omega)
                have s0 := hR5.sq.cell (show 0 < 2 by omega); have s1 := hR5.sq.cell (show 1 < 2 by omega)
                clear hR5
                go_wp2_with fail
                refine (HAl2.out _ (HI1.out _ H5.out) (HI2.out _ H5.out)).mono ?_
                rintro e w6 ⟨qa, ql, qc, rfl, hr, hb⟩
                have H6 := Lib.hid (belowTrans H5.out hb)
                have HRa2 := Lib.hid (HRa.out.below hb)
                have HRb := Lib.hid hr
                obtain ⟨_, _, eq, _⟩ := hr
                injection eq with eq1 eq2 eq3
                subst eq2
                clear eq1 eq3 hb b0 b1 s0 s1
                have hR6 := HR.out.below H6.out
                have b0 := hR6.box.cell (show 0 < 2 by omega); have b1 := hR6.box.cell (show 1 < 2 by omega)
                have s0 := hR6.sq.cell (show 0 < 2 by omega); have s1 := hR6.sq.cell (show 1 < 2 by omega)
                clear hR6
                have m1 : (((za.length : Nat) : Int) != (x : Int)) = false := by rw [HQA.out.2.1]; simp
                have m2 : (((zb.length : Nat) : Int) != (x : Int)) = false := by rw [HQB.out.2.1]; simp
                have HRn1 := Lib.hid (renames_any x xs (renL x xs ps) za _ _ _ w6 (HI1.out _ H6.out) (HI2.out _ H6.out) HRa2.out HL.out HRL.out HQA.out.2.1 HQA.out.2.2)
                rw [HQA.out.1] at HRn1
                go_wp2_with fail
                refine (HRn1.out).mono ?_
                rintro e w7 ⟨rfl, hb⟩
                have H7 := Lib.hid (belowTrans H6.out hb)
                have HRb2 := Lib.hid (HRb.out.below hb)
                clear hb b0 b1 s0 s1
                have hR7 := HR.out.below H7.out
                have b0 := hR7.box.cell (show 0 < 2 by omega); have b1 := hR7.box.cell (show 1 < 2 by omega)
                have s0 := hR7.sq.cell (show 0 < 2 by omega); have s1 := hR7.sq.cell (show 1 < 2 by omega)
                clear hR7
                have HRn2 := Lib.hid (renames_any x (renL x xs ps) xs zb _ _ _ w7 (HI2.out _ H7.out) (HI1.out _ H7.out) HRb2.out HRL.out HL.out HQB.out.2.1 HQB.out.2.2)
                rw [HQB.out.1] at HRn2
                go_wp2_with fail
                refine (HRn2.out).mono ?_
                rintro e w8 ⟨rfl, hb⟩
                have H8 := Lib.hid (belowTrans HR.out.bel (belowTrans H7.out hb))
                clear hb
                go_wp2_with fail
                go_ret
                exact ⟨rfl, H8.out⟩
        · have e3 : decide ((6 : Int) < (n : Int)) = true := by simp; omega
          have e3' : decide (6 < n) = true := by simp; omega
          clear hl h6
          go_wp2_with fail
          go_ret
          exact ⟨rfl, HBW.out⟩
      · have e2 : (((ps.length : Nat) : Int) != (n : Int)) = true := by simp; omega
        clear hl
        go_wp2_with fail
        go_ret
        exact ⟨rfl, HBW.out⟩
    · have e2 : (z != 0) = true := by simpa using h0
      clear h0
      go_wp2_with fail
      go_ret
      exact ⟨rfl, HBW.out⟩
  · have e1 : (latinFault s xs != 0) = true := by simpa using l1
    clear l1
    go_enter Try.func12, Try.ntmps12
    go_wp2_with fail
    refine (quasiFact_any _).mono ?_
    rintro e w1 ⟨rfl, hb1⟩
    have HB1 := Lib.hid hb1
    obtain ⟨hz, k0, k1⟩ := box1 hb1
    clear hb1
    go_wp2_with fail
    refine (latinFault_any _ _ xs _ (HI.out.below HB1.out) hs).mono ?_
    rintro e w2 ⟨rfl, hb2⟩
    have HB2 := Lib.hid (belowTrans HB1.out hb2)
    clear hb2 hz k0 k1
    go_wp2_with fail
    refine (permFaultQ_any _ ps _ (HJ.out.below HB2.out)).mono ?_
    rintro e w3 ⟨z, rfl, _, nd, hw3⟩
    have HB3 := Lib.hid (below_drewN HB2.out nd)
    rw [← hw3] at HB3
    have HBW := Lib.hid (belowTrans HB0.out HB3.out)
    clear hw3
    go_wp2_with fail
    go_ret
    exact ⟨rfl, HBW.out⟩
end Go.Proofs.Ytkmfhnjadpdkeaa
