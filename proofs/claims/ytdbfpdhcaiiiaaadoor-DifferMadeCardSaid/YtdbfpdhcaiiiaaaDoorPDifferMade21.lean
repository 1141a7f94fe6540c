/-
  Contract: the method number of a field's room. No condition.
  Contract: the method shift of a field's room. No condition.
-/
import Derived.Test.YtdbfpdhcaiiiaaaDoorPDifferMade19
namespace Go.Proofs.YtdbfpdhcaiiiaaaDoor
open Go.RowKit

theorem num_vals {p n x : Nat} (hp : p ≤ 64) (hn : n ≤ 64) (hx : x ≤ 64) :
    IntKind.i64.wrap ((n : Int) * (p : Int)) = ((n * p : Nat) : Int) ∧ IntKind.i64.wrap (((n * p : Nat) : Int) + (x : Int)) = ((n * p + x : Nat) : Int) := by
  have h1 : n * p ≤ 64 * 64 := Nat.mul_le_mul hn hp
  refine ⟨?_, ?_⟩
  · rw [← Int.natCast_mul]; exact IntWalk.i64_in _ (by omega)
  · rw [← Int.natCast_add]; exact IntWalk.i64_in _ (by omega)

set_option maxRecDepth 100000 in
set_option maxHeartbeats 2000000 in
theorem number_any (p d q : Nat) (v : Value) (f : Nat → Nat) (w : World) (hp : 2 ≤ p) (hp2 : p ≤ 64) (hd1 : 1 ≤ d) (hd : d ≤ 6) (hq : p ^ d ≤ 64) (hf : ∀ j, f j < p) (hv : ∃ a l c, v = .slice a l c) :
    Calls Tryd.prog 70 #[roomV p d v q, fV f] w fun e w' => e = .returned (.int .i64 (numF p d f : Nat)) ∧ Below w.heap.size w w' := by
  obtain ⟨a, l, c, rfl⟩ := hv
  obtain ⟨X, hX⟩ : ∃ X, X = (rowOf 7 fun j => ((f j : Nat) : Int)).toArray := ⟨_, rfl⟩
  have hA := poly_box (w := w.alloc (.cells #[.int .i64 (p : Int), .int .i64 (d : Int), .slice a l c, .int .i64 (q : Int)] 72)) (t := 89) hX
  have hF := Arr.alloc (four_new w (.int .i64 (p : Int)) (.int .i64 (d : Int)) (.slice a l c) (.int .i64 (q : Int)) 72) (.cells X 89)
  rw [World.size_alloc] at hA
  have HA := Lib.hid hA; have HFour := Lib.hid hF
  have HB := Lib.hid (belowTrans (below_box w (.cells #[.int .i64 (p : Int), .int .i64 (d : Int), .slice a l c, .int .i64 (q : Int)] 72)) (below_box _ (.cells X 89)))
  have HFl := Lib.hid hf
  have HS : Hid (∀ s, s ≤ d → numS p d f s ≤ 64) := fun s hs => by
    have h1 := numS_lt (fun j _ => hf j) s hs
    have h2 : p ^ s ≤ p ^ d := Nat.pow_le_pow_right (by omega) hs
    omega
  clear hf hA hF hq
  show Calls Tryd.prog 70 #[.agg #[.int .i64 (p : Int), .int .i64 (d : Int), .slice a l c, .int .i64 (q : Int)], .agg (rowOf 7 fun j => ((f j : Nat) : Int)).toArray] w fun e w' => e = .returned (.int .i64 (numF p d f : Nat)) ∧ Below w.heap.size w w'
  rw [← hX]
  clear hX
  have hd1' : IntKind.i64.wrap ((d : Int) - 1) = (d : Int) - 1 := IntWalk.i64_in _ (by omega)
  go_enter Tryd.func70, Tryd.ntmps70
  go_wp2_with fail
  clear hd1'
  obtain ⟨W, hW⟩ : ∃ W, W = (w.alloc (.cells #[.int .i64 (p : Int), .int .i64 (d : Int), .slice a l c, .int .i64 (q : Int)] 72)).alloc (.cells X 89) := ⟨_, rfl⟩
  rw [← hW] at HA HFour HB
  have f0 : W.cell? ⟨w.heap.size, 0, none⟩ = some (.int .i64 (p : Int)) := HFour.out.cell (show 0 < 4 by omega)
  have f1 : W.cell? ⟨w.heap.size, 1, none⟩ = some (.int .i64 (d : Int)) := HFour.out.cell (show 1 < 4 by omega)
  rw [← hW]
  clear hW
  go_loopw [5, 6] (fun s i wr => ∃ t n nd : Nat, t ≤ d ∧ i = .int .i64 ((d : Int) - 1 - (t : Int)) ∧ s = .int .i64 n ∧ n = numS p d f t ∧ wr = W.drewN nd) (fun _ i _ => (intOf i + 1).toNat)
  case atStart => exact ⟨0, 0, 0, by omega, by simp, rfl, rfl, rfl⟩
  case round =>
    obtain ⟨t, n, nd, ht, rfl, rfl, hn, rfl⟩ := hrel
    have HN := Lib.hid hn
    have hn64 := HS.out t ht
    rw [← hn] at hn64
    clear hn
    by_cases hlt : t < d
    · obtain ⟨j, hj⟩ : ∃ j, j = d - 1 - t := ⟨_, rfl⟩
      have hj7 : j < 7 := by omega
      have hji : (j : Int) < 7 := by omega
      have hjj : (d : Int) - 1 - (t : Int) = (j : Int) := by omega
      have c1 := (HA.out.old hj7).1
      have hfj := HFl.out j
      obtain ⟨v1, v2⟩ := num_vals (p := p) (n := n) (x := f j) hp2 hn64 (by omega)
      have HN2 : Hid (n * p + f j = numS p d f (t + 1)) := by show _ = _; rw [numS, ← HN.out, hj]
      have HJ : Hid ((j : Int) - 1 = (d : Int) - 1 - ((t + 1 : Nat) : Int)) := by show _ = _; omega
      have hb := HS.out (t + 1) (by omega)
      rw [← HN2.out] at hb
      clear hj
      rw [hjj]
      clear hjj
      generalize f j = x at *
      generalize n * p + x = r at *
      generalize n * p = m2 at *
      go_wp2_with fail
      go_quiet (fail)
      clear c1 v1 v2
      go_wp2_with fail
      go_roundw
      case rel => exact ⟨t + 1, r, _, by omega, congrArg (Value.int .i64) HJ.out, rfl, HN2.out, rfl⟩
      case measure => first | (simp [intOf]; done) | (simp [intOf]; omega)
    · obtain rfl : t = d := by omega
      have hjj : (t : Int) - 1 - (t : Int) = -1 := by omega
      rw [hjj]
      clear hjj
      go_wp2_with fail
      go_ret
      exact ⟨ret_int (by rw [HN.out]; rfl), below_drewN HB.out _⟩
end Go.Proofs.YtdbfpdhcaiiiaaaDoor

namespace Go.Proofs.YtdbfpdhcaiiiaaaDoor
open Go.RowKit

/-- What a walk behind a room and a polynomial holds: three blocks. -/
structure ShRel (w wr : World) (p d q : Nat) (v : Value) (x o : Nat → Nat) : Prop where
  bel : Below w.heap.size w wr
  rm : Arr wr w.heap.size 4 (four (.int .i64 (p : Int)) (.int .i64 (d : Int)) v (.int .i64 (q : Int)))
  px : PolyAt wr (w.heap.size + 1) x
  res : PolyAt wr (w.heap.size + 2) (fun _ => 0)
  po : PolyAt wr (w.heap.size + 3) o
theorem sh_start (w : World) (p d q : Nat) (v : Value) {x : Nat → Nat} {X : Array Value} (hX : X = (rowOf 7 fun j => ((x j : Nat) : Int)).toArray) :
    ShRel w ((((w.alloc (.cells #[.int .i64 (p : Int), .int .i64 (d : Int), v, .int .i64 (q : Int)] 72)).alloc (.cells X 89)).alloc (.cells polyZ 89)).alloc (.cells polyZ 89)) p d q v x (fun _ => 0) := by
  have h0 := four_new w (.int .i64 (p : Int)) (.int .i64 (d : Int)) v (.int .i64 (q : Int)) 72
  have h1 := poly_box (w := w.alloc (.cells #[.int .i64 (p : Int), .int .i64 (d : Int), v, .int .i64 (q : Int)] 72)) (t := 89) hX
  have h2 := poly_new ((w.alloc (.cells #[.int .i64 (p : Int), .int .i64 (d : Int), v, .int .i64 (q : Int)] 72)).alloc (.cells X 89))
  have h3 := poly_new (((w.alloc (.cells #[.int .i64 (p : Int), .int .i64 (d : Int), v, .int .i64 (q : Int)] 72)).alloc (.cells X 89)).alloc (.cells polyZ 89))
  simp only [World.size_alloc] at h1 h2 h3
  exact ⟨belowTrans (belowTrans (belowTrans (below_box _ _) (below_box _ _)) (below_box _ _)) (below_box _ _), Arr.alloc (Arr.alloc (Arr.alloc h0 _) _) _, Arr.alloc (Arr.alloc h1 _) _, Arr.alloc h2 _, h3⟩
theorem ShRel.step {w wr W : World} {p d q : Nat} {v : Value} {x o : Nat → Nat} (h : ShRel w wr p d q v x o) (hb : Below wr.heap.size wr W) : ShRel w W p d q v x o :=
  ⟨belowTrans h.bel hb, Arr.below h.rm hb, Arr.below h.px hb, Arr.below h.res hb, Arr.below h.po hb⟩
theorem ShRel.put {w wr : World} {p d q : Nat} {v : Value} {x o : Nat → Nat} (h : ShRel w wr p d q v x o) {j : Nat} (hj : j < 7) (y : Nat) :
    ShRel w (wr.setCell ⟨w.heap.size + 3, j, none⟩ (.int .i64 (y : Int))) p d q v x (fun i => if i = j then y else o i) :=
  ⟨h.bel.setCell (by show _ ≤ w.heap.size + 3; omega) _, Arr.setOther h.rm (by simp) _, Arr.setOther h.px (by simp) _, Arr.setOther h.res (by simp) _, h.po.set hj y⟩
theorem ShRel.congr {w wr : World} {p d q : Nat} {v : Value} {x o o' : Nat → Nat} (h : ShRel w wr p d q v x o) (e : ∀ j, j < 7 → o j = o' j) : ShRel w wr p d q v x o' :=
  ⟨h.bel, h.rm, h.px, h.res, h.po.congr e⟩
theorem ShRel.room {w wr : World} {p d q : Nat} {v : Value} {x o : Nat → Nat} (h : ShRel w wr p d q v x o) :
    wr.cell? ⟨w.heap.size, 0, none⟩ = some (.int .i64 (p : Int)) ∧ wr.cell? ⟨w.heap.size, 1, none⟩ = some (.int .i64 (d : Int)) ∧ wr.cell? ⟨w.heap.size, 2, none⟩ = some v ∧ wr.cell? ⟨w.heap.size, 3, none⟩ = some (.int .i64 (q : Int)) :=
  ⟨h.rm.cell (show 0 < 4 by omega), h.rm.cell (show 1 < 4 by omega), h.rm.cell (show 2 < 4 by omega), h.rm.cell (show 3 < 4 by omega)⟩
/-- shift behind i places. -/
def shTo (p d : Nat) (low x : Nat → Nat) (i j : Nat) : Nat := if j < i then ((if j = 0 then 0 else x (j - 1)) + (p - x (d - 1)) * low j) % p else 0
theorem shTo_next (p d : Nat) (low x : Nat → Nat) (i : Nat) (j : Nat) : (if j = i then ((if i = 0 then 0 else x (i - 1)) + (p - x (d - 1)) * low i) % p else shTo p d low x i j) = shTo p d low x (i + 1) j := by
  unfold shTo
  by_cases e : j = i
  · subst e; rw [if_pos rfl, if_pos (show j < j + 1 by omega)]
  · rw [if_neg e]
    by_cases e2 : j < i
    · rw [if_pos e2, if_pos (show j < i + 1 by omega)]
    · rw [if_neg e2, if_neg (show ¬ j < i + 1 by omega)]
theorem shTo_done (p d : Nat) (low x : Nat → Nat) : shTo p d low x d = shF p d low x := rfl

set_option maxRecDepth 100000 in
set_option maxHeartbeats 2000000 in
theorem shift_any (p d q : Nat) (v : Value) (low : List Int) (x : Nat → Nat) (w : World) (hI : IntsAt w v low) (hF : IsField p d low) (hx : ∀ j, x j < p) :
    Calls Tryd.prog 69 #[roomV p d v q, fV x] w fun e w' => e = .returned (fV (shF p d (lF low) x)) ∧ Below w.heap.size w w' := by
  have hp := hF.p2; have hp61 := hF.p61; have hd1 := hF.d1; have hd6 := hF.d6
  have HF := Lib.hid hF
  obtain ⟨a, c, rfl, h1, h2, _, h3⟩ := id hI
  have HX3 := Lib.hid h3
  obtain ⟨X, hX⟩ : ∃ X, X = (rowOf 7 fun j => ((x j : Nat) : Int)).toArray := ⟨_, rfl⟩
  have HS := Lib.hid (sh_start w p d q (.slice a low.length c) hX)
  have HXl := Lib.hid hx
  have HLen := Lib.hid hF.len
  have hp0 : ¬ p = 0 := by omega
  clear hI hF h3 hx
  show Calls Tryd.prog 69 #[.agg #[.int .i64 (p : Int), .int .i64 (d : Int), .slice a low.length c, .int .i64 (q : Int)], .agg (rowOf 7 fun j => ((x j : Nat) : Int)).toArray] w fun e w' => e = .returned (fV (shF p d (lF low) x)) ∧ Below w.heap.size w w'
  rw [← hX]
  clear hX
  have hd1' : IntKind.i64.wrap ((d : Int) - 1) = (d : Int) - 1 := IntWalk.i64_in _ (by omega)
  have hdn : (d : Int) - 1 = ((d - 1 : Nat) : Int) := by omega
  have hdn2 : ((d : Int) - 1).toNat = d - 1 := by omega
  obtain ⟨W, hW⟩ : ∃ W, W = (((w.alloc (.cells #[.int .i64 (p : Int), .int .i64 (d : Int), .slice a low.length c, .int .i64 (q : Int)] 72)).alloc (.cells X 89)).alloc (.cells polyZ 89)).alloc (.cells polyZ 89) := ⟨_, rfl⟩
  have HT := HS
  rw [← hW] at HS
  have t1 := (HT.out.px.old (show d - 1 < 7 by omega)).1
  obtain ⟨f0, f1, f2, f3⟩ := HT.out.room
  clear HT
  go_enter Tryd.func69, Tryd.ntmps69
  go_wp2_with fail
  clear t1 f0 f1 f2 f3 hdn hdn2 hd1'
  rw [← hW]
  clear hW
  go_loopw [7, 17] (fun _ u wr => ∃ i : Nat, i ≤ d ∧ u = .int .i64 i ∧ ShRel w wr p d q (.slice a low.length c) x (shTo p d (lF low) x i)) (fun _ u _ => d - (intOf u).toNat)
  case atStart => exact ⟨0, by omega, rfl, HS.out.congr fun j _ => by unfold shTo; rw [if_neg (by omega)]⟩
  case round =>
    clear HS
    obtain ⟨i, hi, rfl, hR⟩ := hrel
    have HR := Lib.hid hR; clear hR
    by_cases hlt : i < d
    · have hil : i < low.length := by rw [HLen.out]; exact hlt
      obtain ⟨b, o, rfl, hb, hc⟩ := HX3.out i hil
      have HC : Hid (∀ W, Below w.heap.size w W → W.cell? ⟨b, o + i, none⟩ = some (.int .i64 ((lF low i : Nat) : Int))) := fun W hW => by
        rw [hW.cell (p := ⟨b, o + i, none⟩) hb, hc i hil, HF.out.lowCast hlt]
      clear hc
      have hi7 : (i : Int) < 7 := by omega
      have hil2 : (i : Int) < (low.length : Int) := by omega
      have hli := HF.out.lowLt i
      have hxd := HXl.out (d - 1)
      obtain ⟨W1, B, hW1, hBp, hB2⟩ : ∃ (W1 : World) (B : Nat), (ShRel w W1 p d q (.slice (some ⟨b, o, none⟩) low.length c) x (fun j => if j = i then B else shTo p d (lF low) x i j)) ∧ B < p ∧ B = (if i = 0 then 0 else x (i - 1)) ∧
          (if i = 0 then W1 = wr else W1 = wr.setCell ⟨w.heap.size + 3, i, none⟩ (.int .i64 ((x (i - 1) : Nat) : Int))) := by
        by_cases e0 : i = 0
        · subst e0
          exact ⟨wr, 0, HR.out.congr (fun j _ => by by_cases e : j = 0 <;> simp [e, shTo]), by omega, rfl, rfl⟩
        · exact ⟨_, x (i - 1), HR.out.put (show i < 7 by omega) (x (i - 1)), HXl.out _, by rw [if_neg e0], by rw [if_neg e0]⟩
      obtain ⟨hB2, hWe⟩ := hB2
      have HR1 := Lib.hid hW1
      have hcell := HC.out W1 hW1.bel
      obtain ⟨r0, r1, r2, r3⟩ := hW1.room
      have c1 : W1.cell? ⟨w.heap.size + 3, i, none⟩ = some (.int .i64 (B : Int)) := by
        have := (hW1.po.old (show i < 7 by omega)).1
        rw [if_pos rfl] at this; exact this
      have c2 := (hW1.po.old (show i < 7 by omega)).2
      obtain ⟨v1, v2, v3, v4⟩ := step_vals (p := p) (c := x (d - 1)) (x := B) (y := lF low i) (by omega) hxd hBp (by omega)
      have HSR : Hid (((B + (p - x (d - 1)) * lF low i : Nat) : Int) % (p : Int) = (((B + (p - x (d - 1)) * lF low i) % p : Nat) : Int)) := (Int.natCast_emod _ _).symm
      have HPut : Hid (ShRel w (W1.setCell ⟨w.heap.size + 3, i, none⟩ (.int .i64 (((B + (p - x (d - 1)) * lF low i : Nat) : Int) % (p : Int)))).drew p d q (.slice (some ⟨b, o, none⟩) low.length c) x (shTo p d (lF low) x (i + 1))) := by
        show ShRel _ _ _ _ _ _ _ _
        rw [HSR.out]
        refine ShRel.step ((HR1.out.put (show i < 7 by omega) _).congr fun j _ => ?_) (below_D _ 1)
        rw [← shTo_next, ← hB2]
        by_cases e : j = i
        · rw [if_pos e, if_pos e]
        · rw [if_neg e, if_neg e, if_neg e]
      have hm : (p - x (d - 1)) * lF low i ≤ 64 * 64 := Nat.mul_le_mul (by omega) (by omega)
      have hx1 : 0 < i → (wr.cell? ⟨w.heap.size + 1, i - 1, none⟩ = some (.int .i64 ((x (i - 1) : Nat) : Int))) := fun _ => (HR.out.px.old (show i - 1 < 7 by omega)).1
      have hx2 := HR.out.po.old (show i < 7 by omega)
      obtain ⟨q0, q1, q2, q3⟩ := HR.out.room
      clear hW1 HSR
      generalize (p - x (d - 1)) * lF low i = M at *
      have hm2 : B + M ≤ 5000 := by omega
      generalize B + M = S at *
      generalize x (d - 1) = C at *
      generalize p - C = U at *
      generalize lF low i = L at *
      by_cases e0 : i = 0
      · rw [if_pos e0] at hWe
        subst hWe
        have HB2 := Lib.hid hB2
        have HE0 := Lib.hid e0
        have ed : ¬ 0 < i := by omega
        clear hB2 hx1 hx2 q0 q1 q2 q3 e0
        go_wp2_with fail
        go_region
        all_goals
          clear v1 v2 v3 v4 c1 c2 hcell r0 r1 r2 r3 ed
          go_wp2_with fail
          go_roundw
          case rel => exact ⟨i + 1, by omega, by go_num, HPut.out⟩
          case measure => simp [intOf]; omega
      · rw [if_neg e0] at hWe
        have HB2 := Lib.hid hB2
        have ed : decide (0 < (i : Int)) = true := by simp; omega
        have hx1 := hx1 (by omega)
        have hi1 : ((i : Int) - 1).toNat = i - 1 := by omega
        have hi2 : 0 ≤ (i : Int) - 1 := by omega
        have hi3 : (i : Int) - 1 < 7 := by omega
        have HE0 := Lib.hid e0
        clear hB2 e0
        obtain ⟨u1, u2⟩ := hx2
        go_wp2_with fail
        rw [← hWe]
        clear hWe hx1 u1 u2 q0 q1 q2 q3 hi1 hi2 hi3
        go_region
        all_goals
          clear v1 v2 v3 v4 c1 c2 hcell r0 r1 r2 r3 ed
          go_wp2_with fail
          go_roundw
          case rel => exact ⟨i + 1, by omega, by go_num, HPut.out⟩
          case measure => simp [intOf]; omega
    · obtain rfl : i = d := by omega
      have ho : PolyAt wr (w.heap.size + 3) (shF p i (lF low) x) := HR.out.po
      have HO := Lib.hid ho
      obtain ⟨V, q1, q2, q3, q4, q5, q6⟩ := Nums.stores (P := Tryd.prog) HR.out.res (fun j => ((shF p i (lF low) x j : Nat) : Int))
      have Q2 := Lib.hid q2; have Q6 := Lib.hid q6
      clear q2 q3 q4 q5 q6 ho
      go_wp2_with (with_reducible refine wpList_load_tab rfl 89 _ rfl _ rfl HO.out Tryd.underlying89 rfl (by kernel_rfl) ?_)
      refine bodyPost_ret (results_arr1 (p := 4) rfl Q2.out Tryd.underlying89 rfl (by kernel_rfl) rfl) rfl ⟨rfl, HR.out.bel.trans (Q6.out _ (by omega))⟩
end Go.Proofs.YtdbfpdhcaiiiaaaDoor
