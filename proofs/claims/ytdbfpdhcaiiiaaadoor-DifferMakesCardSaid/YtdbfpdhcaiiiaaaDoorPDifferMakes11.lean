/-
  Contract: the method number of a field's room. No condition.
  Contract: the method shift of a field's room. No condition.
  Two polynomials made in one statement that draws its order. No condition.
  Contracts: the reference's Sum, Product. No condition.
-/
import Derived.Test.YtdbfpdhcaiiiaaaDoorPDifferMakes10
import Derived.Deep.RegionHeld3
import Derived.Deep.DeepCutAuto
namespace Go.Proofs.YtdbfpdhcaiiiaaaDoor
open Go.RowKit

theorem num_vals {p n x : Nat} (hp : p ≤ 64) (hn : n ≤ 64) (hx : x ≤ 64) :
    IntKind.i64.wrap ((n : Int) * (p : Int)) = ((n * p : Nat) : Int) ∧ IntKind.i64.wrap (((n * p : Nat) : Int) + (x : Int)) = ((n * p + x : Nat) : Int) := by
  have h1 : n * p ≤ 64 * 64 := Nat.mul_le_mul hn hp
  refine ⟨?_, ?_⟩
  · rw [← Int.natCast_mul]; exact IntWalk.i64_in _ (by omega)
  · rw [← Int.natCast_add]; exact IntWalk.i64_in _ (by omega)

set_option maxRecDepth 100000 in
set_option maxHeartbeats 2000000 in
theorem number_any (p d q : Nat) (v : Value) (f : Nat → Nat) (w : World) (hp : 2 ≤ p) (hp2 : p ≤ 64) (hd1 : 1 ≤ d) (hd : d ≤ 6) (hq : p ^ d ≤ 64) (hf : ∀ j, f j < p) (hv : ∃ a l c, v = .slice a l c) :
    Calls Tryd.prog 70 #[roomV p d v q, fV f] w fun e w' => e = .returned (.int .i64 (numF p d f : Nat)) ∧ Below w.heap.size w w' := by
  obtain ⟨a, l, c, rfl⟩ := hv
  obtain ⟨X, hX⟩ : ∃ X, X = (rowOf 7 fun j => ((f j : Nat) : Int)).toArray := ⟨_, rfl⟩
  have hA := poly_box (w := w.alloc (.cells #[.int .i64 (p : Int), .int .i64 (d : Int), .slice a l c, .int .i64 (q : Int)] 72)) (t := 89) hX
  have hF := Arr.alloc (four_new w (.int .i64 (p : Int)) (.int .i64 (d : Int)) (.slice a l c) (.int .i64 (q : Int)) 72) (.cells X 89)
  rw [World.size_alloc] at hA
  have HA := Lib.hid hA; have HFour := Lib.hid hF
  have HB := Lib.hid (belowTrans (below_box w (.cells #[.int .i64 (p : Int), .int .i64 (d : Int), .slice a l c, .int .i64 (q : Int)] 72)) (below_box _ (.cells X 89)))
  have HFl := Lib.hid hf
  have HS : Hid (∀ s, s ≤ d → numS p d f s ≤ 64) := fun s hs => by
    have h1 := numS_lt (fun j _ => hf j) s hs
    have h2 : p ^ s ≤ p ^ d := Nat.pow_le_pow_right (by omega) hs
    omega
  clear hf hA hF hq
  show Calls Tryd.prog 70 #[.agg #[.int .i64 (p : Int), .int .i64 (d : Int), .slice a l c, .int .i64 (q : Int)], .agg (rowOf 7 fun j => ((f j : Nat) : Int)).toArray] w fun e w' => e = .returned (.int .i64 (numF p d f : Nat)) ∧ Below w.heap.size w w'
  rw [← hX]
  clear hX
  have hd1' : IntKind.i64.wrap ((d : Int) - 1) = (d : Int) - 1 := IntWalk.i64_in _ (by omega)
  go_enter Tryd.func70, Tryd.ntmps70
  go_wp2_with fail
  clear hd1'
  obtain ⟨W, hW⟩ : ∃ W, W = (w.alloc (.cells #[.int .i64 (p : Int), .int .i64 (d : Int), .slice a l c, .int .i64 (q : Int)] 72)).alloc (.cells X 89) := ⟨_, rfl⟩
  rw [← hW] at HA HFour HB
  have f0 : W.cell? ⟨w.heap.size, 0, none⟩ = some (.int .i64 (p : Int)) := HFour.out.cell (show 0 < 4 by omega)
  have f1 : W.cell? ⟨w.heap.size, 1, none⟩ = some (.int .i64 (d : Int)) := HFour.out.cell (show 1 < 4 by omega)
  rw [← hW]
  clear hW
  go_loopw [5, 6] (fun s i wr => ∃ t n nd : Nat, t ≤ d ∧ i = .int .i64 ((d : Int) - 1 - (t : Int)) ∧ s = .int .i64 n ∧ n = numS p d f t ∧ wr = W.drewN nd) (fun _ i _ => (intOf i + 1).toNat)
  case atStart => exact ⟨0, 0, 0, by omega, by simp, rfl, rfl, rfl⟩
  case round =>
    obtain ⟨t, n, nd, ht, rfl, rfl, hn, rfl⟩ := hrel
    have HN := Lib.hid hn
    have hn64 := HS.out t ht
    rw [← hn] at hn64
    clear hn
    by_cases hlt : t < d
    · obtain ⟨j, hj⟩ : ∃ j, j = d - 1 - t := ⟨_, rfl⟩
      have hj7 : j < 7 := by omega
      have hji : (j : Int) < 7 := by omega
      have hjj : (d : Int) - 1 - (t : Int) = (j : Int) := by omega
      have c1 := (HA.out.old hj7).1
      have hfj := HFl.out j
      obtain ⟨v1, v2⟩ := num_vals (p := p) (n := n) (x := f j) hp2 hn64 (by omega)
      have HN2 : Hid (n * p + f j = numS p d f (t + 1)) := by show _ = _; rw [numS, ← HN.out, hj]
      have HJ : Hid ((j : Int) - 1 = (d : Int) - 1 - ((t + 1 : Nat) : Int)) := by show _ = _; omega
      have hb := HS.out (t + 1) (by omega)
      rw [← HN2.out] at hb
      clear hj
      rw [hjj]
      clear hjj
      generalize f j = x at *
      generalize n * p + x = r at *
      generalize n * p = m2 at *
      go_wp2_with fail
      go_quiet (fail)
      clear c1 v1 v2
      go_wp2_with fail
      go_roundw
      case rel => exact ⟨t + 1, r, _, by omega, congrArg (Value.int .i64) HJ.out, rfl, HN2.out, rfl⟩
      case measure => first | (simp [intOf]; done) | (simp [intOf]; omega)
    · obtain rfl : t = d := by omega
      have hjj : (t : Int) - 1 - (t : Int) = -1 := by omega
      rw [hjj]
      clear hjj
      go_wp2_with fail
      go_ret
      exact ⟨ret_int (by rw [HN.out]; rfl), below_drewN HB.out _⟩
end Go.Proofs.YtdbfpdhcaiiiaaaDoor

namespace Go.Proofs.YtdbfpdhcaiiiaaaDoor
open Go.RowKit

/-- What a walk behind a room and a polynomial holds: three blocks. -/
structure ShRel (w wr : World) (p d q : Nat) (v : Value) (x o : Nat → Nat) : Prop where
  bel : Below w.heap.size w wr
  rm : Arr wr w.heap.size 4 (four (.int .i64 (p : Int)) (.int .i64 (d : Int)) v (.int .i64 (q : Int)))
  px : PolyAt wr (w.heap.size + 1) x
  res : PolyAt wr (w.heap.size + 2) (fun _ => 0)
  po : PolyAt wr (w.heap.size + 3) o
theorem sh_start (w : World) (p d q : Nat) (v : Value) {x : Nat → Nat} {X : Array Value} (hX : X = (rowOf 7 fun j => ((x j : Nat) : Int)).toArray) :
    ShRel w ((((w.alloc (.cells #[.int .i64 (p : Int), .int .i64 (d : Int), v, .int .i64 (q : Int)] 72)).alloc (.cells X 89)).alloc (.cells polyZ 89)).alloc (.cells polyZ 89)) p d q v x (fun _ => 0) := by
  have h0 := four_new w (.int .i64 (p : Int)) (.int .i64 (d : Int)) v (.int .i64 (q : Int)) 72
  have h1 := poly_box (w := w.alloc (.cells #[.int .i64 (p : Int), .int .i64 (d : Int), v, .int .i64 (q : Int)] 72)) (t := 89) hX
  have h2 := poly_new ((w.alloc (.cells #[.int .i64 (p : Int), .int .i64 (d : Int), v, .int .i64 (q : Int)] 72)).alloc (.cells X 89))
  have h3 := poly_new (((w.alloc (.cells #[.int .i64 (p : Int), .int .i64 (d : Int), v, .int .i64 (q : Int)] 72)).alloc (.cells X 89)).alloc (.cells polyZ 89))
  simp only [World.size_alloc] at h1 h2 h3
  exact ⟨belowTrans (belowTrans (belowTrans (below_box _ _) (below_box _ _)) (below_box _ _)) (below_box _ _), Arr.alloc (Arr.alloc (Arr.alloc h0 _) _) _, Arr.alloc (Arr.alloc h1 _) _, Arr.alloc h2 _, h3⟩
theorem ShRel.step {w wr W : World} {p d q : Nat} {v : Value} {x o : Nat → Nat} (h : ShRel w wr p d q v x o) (hb : Below wr.heap.size wr W) : ShRel w W p d q v x o :=
  ⟨belowTrans h.bel hb, Arr.below h.rm hb, Arr.below h.px hb, Arr.below h.res hb, Arr.below h.po hb⟩
theorem ShRel.put {w wr : World} {p d q : Nat} {v : Value} {x o : Nat → Nat} (h : ShRel w wr p d q v x o) {j : Nat} (hj : j < 7) (y : Nat) :
    ShRel w (wr.setCell ⟨w.heap.size + 3, j, none⟩ (.int .i64 (y : Int))) p d q v x (fun i => if i = j then y else o i) :=
  ⟨h.bel.setCell (by show _ ≤ w.heap.size + 3; omega) _, Arr.setOther h.rm (by simp) _, Arr.setOther h.px (by simp) _, Arr.setOther h.res (by simp) _, h.po.set hj y⟩
theorem ShRel.congr {w wr : World} {p d q : Nat} {v : Value} {x o o' : Nat → Nat} (h : ShRel w wr p d q v x o) (e : ∀ j, j < 7 → o j = o' j) : ShRel w wr p d q v x o' :=
  ⟨h.bel, h.rm, h.px, h.res, h.po.congr e⟩
theorem ShRel.room {w wr : World} {p d q : Nat} {v : Value} {x o : Nat → Nat} (h : ShRel w wr p d q v x o) :
    wr.cell? ⟨w.heap.size, 0, none⟩ = some (.int .i64 (p : Int)) ∧ wr.cell? ⟨w.heap.size, 1, none⟩ = some (.int .i64 (d : Int)) ∧ wr.cell? ⟨w.heap.size, 2, none⟩ = some v ∧ wr.cell? ⟨w.heap.size, 3, none⟩ = some (.int .i64 (q : Int)) :=
  ⟨h.rm.cell (show 0 < 4 by omega), h.rm.cell (show 1 < 4 by omega), h.rm.cell (show 2 < 4 by omega), h.rm.cell (show 3 < 4 by omega)⟩
/-- shift behind i places. -/
def shTo (p d : Nat) (low x : Nat → Nat) (i j : Nat) : Nat := if j < i then ((if j = 0 then 0 else x (j - 1)) + (p - x (d - 1)) * low j) % p else 0
theorem shTo_next (p d : Nat) (low x : Nat → Nat) (i : Nat) (j : Nat) : (if j = i then ((if i = 0 then 0 else x (i - 1)) + (p - x (d - 1)) * low i) % p else shTo p d low x i j) = shTo p d low x (i + 1) j := by
  unfold shTo
  by_cases e : j = i
  · subst e; rw [if_pos rfl, if_pos (show j < j + 1 by omega)]
  · rw [if_neg e]
    by_cases e2 : j < i
    · rw [if_pos e2, if_pos (show j < i + 1 by omega)]
    · rw [if_neg e2, if_neg (show ¬ j < i + 1 by omega)]
theorem shTo_done (p d : Nat) (low x : Nat → Nat) : shTo p d low x d = shF p d low x := rfl

set_option maxRecDepth 100000 in
set_option maxHeartbeats 2000000 in
theorem shift_any (p d q : Nat) (v : Value) (low : List Int) (x : Nat → Nat) (w : World) (hI : IntsAt w v low) (hF : IsField p d low) (hx : ∀ j, x j < p) :
    Calls Tryd.prog 69 #[roomV p d v q, fV x] w fun e w' => e = .returned (fV (shF p d (lF low) x)) ∧ Below w.heap.size w w' := by
  have hp := hF.p2; have hp61 := hF.p61; have hd1 := hF.d1; have hd6 := hF.d6
  have HF := Lib.hid hF
  obtain ⟨a, c, rfl, h1, h2, _, h3⟩ := id hI
  have HX3 := Lib.hid h3
  obtain ⟨X, hX⟩ : ∃ X, X = (rowOf 7 fun j => ((x j : Nat) : Int)).toArray := ⟨_, rfl⟩
  have HS := Lib.hid (sh_start w p d q (.slice a low.length c) hX)
  have HXl := Lib.hid hx
  have HLen := Lib.hid hF.len
  have hp0 : ¬ p = 0 := by omega
  clear hI hF h3 hx
  show Calls Tryd.prog 69 #[.agg #[.int .i64 (p : Int), .int .i64 (d : Int), .slice a low.length c, .int .i64 (q : Int)], .agg (rowOf 7 fun j => ((x j : Nat) : Int)).toArray] w fun e w' => e = .returned (fV (shF p d (lF low) x)) ∧ Below w.heap.size w w'
  rw [← hX]
  clear hX
  have hd1' : IntKind.i64.wrap ((d : Int) - 1) = (d : Int) - 1 := IntWalk.i64_in _ (by omega)
  have hdn : (d : Int) - 1 = ((d - 1 : Nat) : Int) := by omega
  have hdn2 : ((d : Int) - 1).toNat = d - 1 := by omega
  obtain ⟨W, hW⟩ : ∃ W, W = (((w.alloc (.cells #[.int .i64 (p : Int), .int .i64 (d : Int), .slice a low.length c, .int .i64 (q : Int)] 72)).alloc (.cells X 89)).alloc (.cells polyZ 89)).alloc (.cells polyZ 89) := ⟨_, rfl⟩
  have HT := HS
  rw [← hW] at HS
  have t1 := (HT.out.px.old (show d - 1 < 7 by omega)).1
  obtain ⟨f0, f1, f2, f3⟩ := HT.out.room
  clear HT
  go_enter Tryd.func69, Tryd.ntmps69
  go_wp2_with fail
  clear t1 f0 f1 f2 f3 hdn hdn2 hd1'
  rw [← hW]
  clear hW
  go_loopw [7, 17] (fun _ u wr => ∃ i : Nat, i ≤ d ∧ u = .int .i64 i ∧ ShRel w wr p d q (.slice a low.length c) x (shTo p d (lF low) x i)) (fun _ u _ => d - (intOf u).toNat)
  case atStart => exact ⟨0, by omega, rfl, HS.out.congr fun j _ => by unfold shTo; rw [if_neg (by omega)]⟩
  case round =>
    clear HS
    obtain ⟨i, hi, rfl, hR⟩ := hrel
    have HR := Lib.hid hR; clear hR
    by_cases hlt : i < d
    · have hil : i < low.length := by rw [HLen.out]; exact hlt
      obtain ⟨b, o, rfl, hb, hc⟩ := HX3.out i hil
      have HC : Hid (∀ W, Below w.heap.size w W → W.cell? ⟨b, o + i, none⟩ = some (.int .i64 ((lF low i : Nat) : Int))) := fun W hW => by
        rw [hW.cell (p := ⟨b, o + i, none⟩) hb, hc i hil, HF.out.lowCast hlt]
      clear hc
      have hi7 : (i : Int) < 7 := by omega
      have hil2 : (i : Int) < (low.length : Int) := by omega
      have hli := HF.out.lowLt i
      have hxd := HXl.out (d - 1)
      obtain ⟨W1, B, hW1, hBp, hB2⟩ : ∃ (W1 : World) (B : Nat), (ShRel w W1 p d q (.slice (some ⟨b, o, none⟩) low.length c) x (fun j => if j = i then B else shTo p d (lF low) x i j)) ∧ B < p ∧ B = (if i = 0 then 0 else x (i - 1)) ∧
          (if i = 0 then W1 = wr else W1 = wr.setCell ⟨w.heap.size + 3, i, none⟩ (.int .i64 ((x (i - 1) : Nat) : Int))) := by
        by_cases e0 : i = 0
        · subst e0
          exact ⟨wr, 0, HR.out.congr (fun j _ => by by_cases e : j = 0 <;> simp [e, shTo]), by omega, rfl, rfl⟩
        · exact ⟨_, x (i - 1), HR.out.put (show i < 7 by omega) (x (i - 1)), HXl.out _, by rw [if_neg e0], by rw [if_neg e0]⟩
      obtain ⟨hB2, hWe⟩ := hB2
      have HR1 := Lib.hid hW1
      have hcell := HC.out W1 hW1.bel
      obtain ⟨r0, r1, r2, r3⟩ := hW1.room
      have c1 : W1.cell? ⟨w.heap.size + 3, i, none⟩ = some (.int .i64 (B : Int)) := by
        have := (hW1.po.old (show i < 7 by omega)).1
        rw [if_pos rfl] at this; exact this
      have c2 := (hW1.po.old (show i < 7 by omega)).2
      obtain ⟨v1, v2, v3, v4⟩ := step_vals (p := p) (c := x (d - 1)) (x := B) (y := lF low i) (by omega) hxd hBp (by omega)
      have HSR : Hid (((B + (p - x (d - 1)) * lF low i : Nat) : Int) % (p : Int) = (((B + (p - x (d - 1)) * lF low i) % p : Nat) : Int)) := (Int.natCast_emod _ _).symm
      have HPut : Hid (ShRel w (W1.setCell ⟨w.heap.size + 3, i, none⟩ (.int .i64 (((B + (p - x (d - 1)) * lF low i : Nat) : Int) % (p : Int)))).drew p d q (.slice (some ⟨b, o, none⟩) low.length c) x (shTo p d (lF low) x (i + 1))) := by
        show ShRel _ _ _ _ _ _ _ _
        rw [HSR.out]
        refine ShRel.step ((HR1.out.put (show i < 7 by omega) _).congr fun j _ => ?_) (below_D _ 1)
        rw [← shTo_next, ← hB2]
        by_cases e : j = i
        · rw [if_pos e, if_pos e]
        · rw [if_neg e, if_neg e, if_neg e]
      have hm : (p - x (d - 1)) * lF low i ≤ 64 * 64 := Nat.mul_le_mul (by omega) (by omega)
      have hx1 : 0 < i → (wr.cell? ⟨w.heap.size + 1, i - 1, none⟩ = some (.int .i64 ((x (i - 1) : Nat) : Int))) := fun _ => (HR.out.px.old (show i - 1 < 7 by omega)).1
      have hx2 := HR.out.po.old (show i < 7 by omega)
      obtain ⟨q0, q1, q2, q3⟩ := HR.out.room
      clear hW1 HSR
      generalize (p - x (d - 1)) * lF low i = M at *
      have hm2 : B + M ≤ 5000 := by omega
      generalize B + M = S at *
      generalize x (d - 1) = C at *
      generalize p - C = U at *
      generalize lF low i = L at *
      by_cases e0 : i = 0
      · rw [if_pos e0] at hWe
        subst hWe
        have HB2 := Lib.hid hB2
        have HE0 := Lib.hid e0
        have ed : ¬ 0 < i := by omega
        clear hB2 hx1 hx2 q0 q1 q2 q3 e0
        go_wp2_with fail
        go_region
        all_goals
          clear v1 v2 v3 v4 c1 c2 hcell r0 r1 r2 r3 ed
          go_wp2_with fail
          go_roundw
          case rel => exact ⟨i + 1, by omega, by go_num, HPut.out⟩
          case measure => simp [intOf]; omega
      · rw [if_neg e0] at hWe
        have HB2 := Lib.hid hB2
        have ed : decide (0 < (i : Int)) = true := by simp; omega
        have hx1 := hx1 (by omega)
        have hi1 : ((i : Int) - 1).toNat = i - 1 := by omega
        have hi2 : 0 ≤ (i : Int) - 1 := by omega
        have hi3 : (i : Int) - 1 < 7 := by omega
        have HE0 := Lib.hid e0
        clear hB2 e0
        obtain ⟨u1, u2⟩ := hx2
        go_wp2_with fail
        rw [← hWe]
        clear hWe hx1 u1 u2 q0 q1 q2 q3 hi1 hi2 hi3
        go_region
        all_goals
          clear v1 v2 v3 v4 c1 c2 hcell r0 r1 r2 r3 ed
          go_wp2_with fail
          go_roundw
          case rel => exact ⟨i + 1, by omega, by go_num, HPut.out⟩
          case measure => simp [intOf]; omega
    · obtain rfl : i = d := by omega
      have ho : PolyAt wr (w.heap.size + 3) (shF p i (lF low) x) := HR.out.po
      have HO := Lib.hid ho
      obtain ⟨V, q1, q2, q3, q4, q5, q6⟩ := Nums.stores (P := Tryd.prog) HR.out.res (fun j => ((shF p i (lF low) x j : Nat) : Int))
      have Q2 := Lib.hid q2; have Q6 := Lib.hid q6
      clear q2 q3 q4 q5 q6 ho
      go_wp2_with (with_reducible refine wpList_load_tab rfl 89 _ rfl _ rfl HO.out Tryd.underlying89 rfl (by kernel_rfl) ?_)
      refine bodyPost_ret (results_arr1 (p := 4) rfl Q2.out Tryd.underlying89 rfl (by kernel_rfl) rfl) rfl ⟨rfl, HR.out.bel.trans (Q6.out _ (by omega))⟩
end Go.Proofs.YtdbfpdhcaiiiaaaDoor

namespace Go.Proofs.YtdbfpdhcaiiiaaaDoor
open Go.RowKit

/-- A block of seven cells that may be written. -/
def Wr (w : World) (b : Nat) : Prop := ∃ f, Arr w b 7 f
theorem Wr.new (w : World) {b : Nat} (t : TypeId) (h : b = w.heap.size) : Wr (w.alloc (.cells polyZ t)) b := by subst h; exact ⟨_, Arr.newOf w 7 _ _ _ polyZeroA⟩
theorem Wr.alloc {w : World} {b : Nat} (h : Wr w b) (o : Obj) : Wr (w.alloc o) b := by obtain ⟨f, h⟩ := h; exact ⟨f, h.alloc o⟩
theorem Wr.below {w w' : World} {b : Nat} (h : Wr w b) (hb : Below w.heap.size w w') : Wr w' b := by obtain ⟨f, h⟩ := h; exact ⟨f, h.below hb⟩
/-- A polynomial stored whole. -/
def stP (w : World) (b : Nat) (f : Nat → Nat) : World := w.setCells b 0 (rowOf 7 fun j => ((f j : Nat) : Int))
theorem stP_run {P : Program} {w : World} {b : Nat} (h : Wr w b) (f : Nat → Nat) : (storeCells ⟨b, 0, none⟩ (rowOf 7 fun j => ((f j : Nat) : Int)) 0).run P w = .ok () (stP w b f) := by
  obtain ⟨g, h⟩ := h
  refine run_storeCells_cells b 0 (rowOf 7 fun j => ((f j : Nat) : Int)) 0 w (fun j hj => ?_) (fun j hj => ?_) (rowOf_one _ _)
  · rw [rowOf_len] at hj
    rw [Nat.zero_add, h.cell hj]; rfl
  · rw [rowOf_len] at hj
    rw [Nat.zero_add, h.free hj]
theorem stP_poly {w : World} {b : Nat} (h : Wr w b) (f : Nat → Nat) : PolyAt (stP w b f) b f := by
  obtain ⟨g, h⟩ := h
  unfold stP
  refine ⟨by rw [setCells_size]; exact h.lt, fun j hj => ⟨?_, ?_⟩⟩
  · have := World.cell?_setCells_in b (rowOf 7 fun j => ((f j : Nat) : Int)) 0 w (fun i hi => by rw [rowOf_len] at hi; rw [Nat.zero_add, h.cell hi]; rfl) j (by rw [rowOf_len]; exact hj)
    rw [Nat.zero_add] at this
    rw [this]
    simp [rowOf]
  · rw [World.frozen?_setCells]; exact h.free hj
theorem stP_size (w : World) (b : Nat) (f : Nat → Nat) : (stP w b f).heap.size = w.heap.size := setCells_size _ _ _ _
theorem stP_other {w : World} {b b' n : Nat} {g : Nat → Value} (f : Nat → Nat) (h : Arr w b' n g) (hb : b' ≠ b) : Arr (stP w b f) b' n g :=
  h.kept (fun o => World.cell?_of_block (w := w) (a := ⟨b', o, none⟩) (setCells_far b _ 0 w b' hb)) (fun o => World.frozen?_of_block (w := w) (a := ⟨b', o, none⟩) (setCells_far b _ 0 w b' hb)) (by rw [stP_size]; exact Nat.le_refl _)
theorem stP_wr {w : World} {b b' : Nat} (f : Nat → Nat) (h : Wr w b') (hb : b' ≠ b) : Wr (stP w b f) b' := by obtain ⟨g, h⟩ := h; exact ⟨g, stP_other f h hb⟩
theorem stP_below (w : World) (b : Nat) (f : Nat → Nat) {B : Nat} (h : B ≤ b) : Below B w (stP w b f) := setCells_below b _ 0 w B h

/-- Where one of the two polynomials stands: not made, made, stored. -/
inductive St where
  | no
  | wr (b : Nat)
  | po (b : Nat) (f : Nat → Nat)
def St.blk : St → Option Nat
  | .no => none
  | .wr b => some b
  | .po b _ => some b
def St.At (B : Nat) (w : World) : St → Prop
  | .no => True
  | .wr b => B < b ∧ Wr w b
  | .po b f => B < b ∧ PolyAt w b f
theorem St.At.lt {B : Nat} {w : World} {t : St} (h : t.At B w) {b : Nat} (hb : t.blk = some b) : b < w.heap.size := by
  cases t with
  | no => cases hb
  | wr b => cases hb; obtain ⟨f, h⟩ := h.2; exact h.lt
  | po b f => cases hb; exact Arr.lt h.2
theorem St.At.below {B : Nat} {w w' : World} {t : St} (h : t.At B w) (hb : Below w.heap.size w w') : t.At B w' := by
  cases t with
  | no => trivial
  | wr b => exact ⟨h.1, h.2.below hb⟩
  | po b f => exact ⟨h.1, Arr.below h.2 hb⟩
theorem St.At.store {B : Nat} {w : World} {t : St} (h : t.At B w) {b : Nat} (f : Nat → Nat) (hb : ∀ c, t.blk = some c → c ≠ b) : t.At B (stP w b f) := by
  cases t with
  | no => trivial
  | wr c => exact ⟨h.1, stP_wr f h.2 (hb c rfl)⟩
  | po c g => exact ⟨h.1, stP_other f h.2 (hb c rfl)⟩
/-- What stands in the middle of the statement: the room, and what there is of the two. -/
structure SI (w W : World) (p d q : Nat) (v : Value) (s t : St) : Prop where
  bel : Below w.heap.size w W
  lt : w.heap.size < W.heap.size
  rm : Arr W w.heap.size 4 (four (.int .i64 (p : Int)) (.int .i64 (d : Int)) v (.int .i64 (q : Int)))
  s1 : s.At w.heap.size W
  t1 : t.At w.heap.size W
  ne : ∀ b c, s.blk = some b → t.blk = some c → b ≠ c
theorem SI.begin (w : World) (p d q : Nat) (v : Value) (T : TypeId) : SI w (w.alloc (.cells #[.int .i64 (p : Int), .int .i64 (d : Int), v, .int .i64 (q : Int)] T)).drew p d q v .no .no :=
  ⟨(below_box w _).drew, by show _ < (w.alloc _).heap.size; simp, Arr.drew (four_new w _ _ _ _ T), trivial, trivial, fun b c h => by cases h⟩
theorem SI.call {w W W' : World} {p d q : Nat} {v : Value} {s t : St} (h : SI w W p d q v s t) (hb : Below W.heap.size W W') : SI w W' p d q v s t :=
  ⟨belowTrans h.bel hb, Nat.lt_of_lt_of_le h.lt hb.size, Arr.below h.rm hb, h.s1.below hb, h.t1.below hb, h.ne⟩
theorem SI.make1 {w W : World} {p d q : Nat} {v : Value} {t : St} (h : SI w W p d q v .no t) (T : TypeId) : SI w (W.alloc (.cells polyZ T)) p d q v (.wr W.heap.size) t :=
  ⟨h.bel.alloc h.bel.size _, by have := h.lt; simp; omega, Arr.alloc h.rm _, ⟨h.lt, Wr.new W T rfl⟩, h.t1.below (below_box _ _), fun b c hb hc => by cases hb; have := h.t1.lt hc; omega⟩
theorem SI.make2 {w W : World} {p d q : Nat} {v : Value} {s : St} (h : SI w W p d q v s .no) (T : TypeId) : SI w (W.alloc (.cells polyZ T)) p d q v s (.wr W.heap.size) :=
  ⟨h.bel.alloc h.bel.size _, by have := h.lt; simp; omega, Arr.alloc h.rm _, h.s1.below (below_box _ _), ⟨h.lt, Wr.new W T rfl⟩, fun b c hb hc => by cases hc; have := h.s1.lt hb; omega⟩
theorem SI.put1 {w W : World} {p d q : Nat} {v : Value} {b : Nat} {t : St} (h : SI w W p d q v (.wr b) t) (f : Nat → Nat) : SI w (stP W b f) p d q v (.po b f) t :=
  ⟨h.bel.trans (stP_below W b f (Nat.le_of_lt h.s1.1)), by rw [stP_size]; exact h.lt, stP_other f h.rm (Nat.ne_of_lt h.s1.1), ⟨h.s1.1, stP_poly h.s1.2 f⟩, h.t1.store f (fun c hc => Ne.symm (h.ne b c rfl hc)), fun b' c hb hc => by cases hb; exact h.ne b c rfl hc⟩
theorem SI.put2 {w W : World} {p d q : Nat} {v : Value} {b : Nat} {s : St} (h : SI w W p d q v s (.wr b)) (f : Nat → Nat) : SI w (stP W b f) p d q v s (.po b f) :=
  ⟨h.bel.trans (stP_below W b f (Nat.le_of_lt h.t1.1)), by rw [stP_size]; exact h.lt, stP_other f h.rm (Nat.ne_of_lt h.t1.1), h.s1.store f (fun c hc => h.ne c b hc rfl), ⟨h.t1.1, stP_poly h.t1.2 f⟩, fun b' c hb hc => by cases hc; exact h.ne b' b hb rfl⟩
theorem SI.cell {w W : World} {p d q : Nat} {v : Value} {s t : St} (h : SI w W p d q v s t) : W.cell? ⟨w.heap.size, 0, none⟩ = some (.int .i64 (p : Int)) := h.rm.cell (show 0 < 4 by omega)
theorem SI.wr1 {w W : World} {p d q : Nat} {v : Value} {b : Nat} {t : St} (h : SI w W p d q v (.wr b) t) : Wr W b := h.s1.2
theorem SI.wr2 {w W : World} {p d q : Nat} {v : Value} {b : Nat} {s : St} (h : SI w W p d q v s (.wr b)) : Wr W b := h.t1.2

/-- What stands behind the statement. -/
structure TwoRel (w wr : World) (p d q : Nat) (v : Value) (b7 b8 : Nat) (x y : Nat → Nat) : Prop where
  bel : Below w.heap.size w wr
  rm : Arr wr w.heap.size 4 (four (.int .i64 (p : Int)) (.int .i64 (d : Int)) v (.int .i64 (q : Int)))
  px : PolyAt wr b7 x
  py : PolyAt wr b8 y
  n7 : w.heap.size < b7
  n8 : w.heap.size < b8
  ne : b7 ≠ b8

theorem TwoRel.step {w wr W : World} {p d q : Nat} {v : Value} {b c : Nat} {f g : Nat → Nat} (h : TwoRel w wr p d q v b c f g) (hb : Below wr.heap.size wr W) : TwoRel w W p d q v b c f g :=
  ⟨belowTrans h.bel hb, Arr.below h.rm hb, Arr.below h.px hb, Arr.below h.py hb, h.n7, h.n8, h.ne⟩
theorem TwoRel.put {w wr : World} {p d q : Nat} {v : Value} {b c : Nat} {f g : Nat → Nat} (h : TwoRel w wr p d q v b c f g) {j : Nat} (hj : j < 7) (y : Nat) :
    TwoRel w (wr.setCell ⟨b, j, none⟩ (.int .i64 (y : Int))) p d q v b c (fun i => if i = j then y else f i) g :=
  ⟨h.bel.setCell (Nat.le_of_lt h.n7) _, Arr.setOther h.rm (by have := h.n7; show b ≠ w.heap.size; omega) _, h.px.set hj y, Arr.setOther h.py h.ne _, h.n7, h.n8, h.ne⟩
theorem TwoRel.congr {w wr : World} {p d q : Nat} {v : Value} {b c : Nat} {f f' g : Nat → Nat} (h : TwoRel w wr p d q v b c f g) (e : ∀ j, j < 7 → f j = f' j) : TwoRel w wr p d q v b c f' g :=
  ⟨h.bel, h.rm, h.px.congr e, h.py, h.n7, h.n8, h.ne⟩
theorem TwoRel.room {w wr : World} {p d q : Nat} {v : Value} {b c : Nat} {f g : Nat → Nat} (h : TwoRel w wr p d q v b c f g) :
    wr.cell? ⟨w.heap.size, 0, none⟩ = some (.int .i64 (p : Int)) ∧ wr.cell? ⟨w.heap.size, 1, none⟩ = some (.int .i64 (d : Int)) ∧ wr.cell? ⟨w.heap.size, 2, none⟩ = some v ∧ wr.cell? ⟨w.heap.size, 3, none⟩ = some (.int .i64 (q : Int)) :=
  ⟨h.rm.cell (show 0 < 4 by omega), h.rm.cell (show 1 < 4 by omega), h.rm.cell (show 2 < 4 by omega), h.rm.cell (show 3 < 4 by omega)⟩
theorem sum_vals {p x y : Nat} (hp : p ≤ 64) (hx : x < p) (hy : y < p) :
    IntKind.i64.wrap ((x : Int) + (y : Int)) = ((x + y : Nat) : Int) ∧ IntKind.i64.wrap (((x + y : Nat) : Int).tmod (p : Int)) = (((x + y) % p : Nat) : Int) := by
  have h2 : (x + y) % p < p := Nat.mod_lt _ (by omega)
  refine ⟨?_, ?_⟩
  · rw [← Int.natCast_add]; exact IntWalk.i64_in _ (by omega)
  · rw [← Int.ofNat_tmod]; exact IntWalk.i64_in _ (by omega)
/-- A sum behind i places. -/
def adF (p : Nat) (x y : Nat → Nat) (i j : Nat) : Nat := if j < i then (x j + y j) % p else x j
theorem adF_next (p : Nat) (x y : Nat → Nat) (i j : Nat) : (if j = i then (x i + y i) % p else adF p x y i j) = adF p x y (i + 1) j := by
  unfold adF
  by_cases e : j = i
  · subst e; rw [if_pos rfl, if_pos (by omega)]
  · rw [if_neg e]
    by_cases e2 : j < i
    · rw [if_pos e2, if_pos (by omega)]
    · rw [if_neg e2, if_neg (by omega)]
theorem SI.two {w W : World} {p d q : Nat} {v : Value} {b c : Nat} {f g : Nat → Nat} (h : SI w W p d q v (.po b f) (.po c g)) : TwoRel w W p d q v b c f g :=
  ⟨h.bel, h.rm, h.s1.2, h.t1.2, h.s1.1, h.t1.1, h.ne b c rfl rfl⟩

/-- What mul holds: the room, the two polynomials, the product so far. -/
structure MulRel (w wr : World) (p d q : Nat) (v : Value) (b7 b8 b9 : Nat) (x y o : Nat → Nat) : Prop where
  two : TwoRel w wr p d q v b7 b8 x y
  po : PolyAt wr b9 o
  n9 : w.heap.size < b9
  e7 : b7 ≠ b9
  e8 : b8 ≠ b9
theorem MulRel.begin {w wr : World} {p d q : Nat} {v : Value} {b7 b8 : Nat} {x y : Nat → Nat} (h : TwoRel w wr p d q v b7 b8 x y) (T : TypeId) :
    MulRel w (wr.alloc (.cells polyZ T)) p d q v b7 b8 wr.heap.size x y (fun _ => 0) :=
  ⟨h.step (below_box _ _), Arr.newOf wr 7 _ _ _ polyZeroA, by have := h.n7; have := Arr.lt h.px; omega, by have := Arr.lt h.px; omega, by have := Arr.lt h.py; omega⟩
theorem MulRel.step {w wr W : World} {p d q : Nat} {v : Value} {b7 b8 b9 : Nat} {x y o : Nat → Nat} (h : MulRel w wr p d q v b7 b8 b9 x y o) (hb : Below wr.heap.size wr W) : MulRel w W p d q v b7 b8 b9 x y o :=
  ⟨h.two.step hb, Arr.below h.po hb, h.n9, h.e7, h.e8⟩
theorem MulRel.put {w wr : World} {p d q : Nat} {v : Value} {b7 b8 b9 : Nat} {x y o : Nat → Nat} (h : MulRel w wr p d q v b7 b8 b9 x y o) {j : Nat} (hj : j < 7) (z : Nat) :
    MulRel w (wr.setCell ⟨b9, j, none⟩ (.int .i64 (z : Int))) p d q v b7 b8 b9 x y (fun i => if i = j then z else o i) :=
  ⟨⟨h.two.bel.setCell (Nat.le_of_lt h.n9) _, Arr.setOther h.two.rm (by have := h.n9; show b9 ≠ w.heap.size; omega) _, Arr.setOther h.two.px (Ne.symm h.e7) _, Arr.setOther h.two.py (Ne.symm h.e8) _, h.two.n7, h.two.n8, h.two.ne⟩, h.po.set hj z, h.n9, h.e7, h.e8⟩
theorem MulRel.congr {w wr : World} {p d q : Nat} {v : Value} {b7 b8 b9 : Nat} {x y o o' : Nat → Nat} (h : MulRel w wr p d q v b7 b8 b9 x y o) (e : ∀ j, j < 7 → o j = o' j) : MulRel w wr p d q v b7 b8 b9 x y o' :=
  ⟨h.two, h.po.congr e, h.n9, h.e7, h.e8⟩
theorem MulRel.turn {w wr : World} {p d q : Nat} {v : Value} {b7 b8 b9 : Nat} {x y o : Nat → Nat} (h : MulRel w wr p d q v b7 b8 b9 x y o) (x' : Nat → Nat) : MulRel w (stP wr b7 x') p d q v b7 b8 b9 x' y o :=
  ⟨⟨h.two.bel.trans (stP_below wr b7 x' (Nat.le_of_lt h.two.n7)), stP_other x' h.two.rm (Nat.ne_of_lt h.two.n7), stP_poly ⟨_, h.two.px⟩ x', stP_other x' h.two.py (Ne.symm h.two.ne), h.two.n7, h.two.n8, h.two.ne⟩,
    stP_other x' h.po (Ne.symm h.e7), h.n9, h.e7, h.e8⟩
/-- The product behind k places of a round. -/
def muF (p : Nat) (o x : Nat → Nat) (y k j : Nat) : Nat := if j < k then (o j + x j * y) % p else o j
theorem muF_next (p : Nat) (o x : Nat → Nat) (y k j : Nat) : (if j = k then (o k + x k * y) % p else muF p o x y k j) = muF p o x y (k + 1) j := by
  unfold muF
  by_cases e : j = k
  · subst e; rw [if_pos rfl, if_pos (by omega)]
  · rw [if_neg e]
    by_cases e2 : j < k
    · rw [if_pos e2, if_pos (by omega)]
    · rw [if_neg e2, if_neg (by omega)]
theorem outF_far (p d : Nat) (low x y : Nat → Nat) {j : Nat} (hj : d ≤ j) : ∀ i, outF p d low x y i j = 0
  | 0 => rfl
  | i + 1 => by rw [outF]; dsimp only; rw [if_neg (by omega)]
theorem muF_done (p d : Nat) (low x y : Nat → Nat) (i j : Nat) : muF p (outF p d low x y i) (shN p d low x i) (y i) d j = outF p d low x y (i + 1) j := by
  unfold muF
  rw [outF]
  dsimp only
  by_cases h : j < d
  · rw [if_pos h, if_pos h]
  · rw [if_neg h, if_neg h, outF_far p d low x y (by omega) i]
theorem prod_vals {p o x y : Nat} (hp : p ≤ 64) (ho : o < p) (hx : x < p) (hy : y < p) :
    IntKind.i64.wrap ((x : Int) * (y : Int)) = ((x * y : Nat) : Int) ∧ IntKind.i64.wrap ((o : Int) + ((x * y : Nat) : Int)) = ((o + x * y : Nat) : Int) ∧ IntKind.i64.wrap (((o + x * y : Nat) : Int).tmod (p : Int)) = (((o + x * y) % p : Nat) : Int) := by
  have h1 : x * y ≤ 64 * 64 := Nat.mul_le_mul (by omega) (by omega)
  have h2 : (o + x * y) % p < p := Nat.mod_lt _ (by omega)
  refine ⟨?_, ?_, ?_⟩
  · rw [← Int.natCast_mul]; exact IntWalk.i64_in _ (by omega)
  · rw [← Int.natCast_add]; exact IntWalk.i64_in _ (by omega)
  · rw [← Int.ofNat_tmod]; exact IntWalk.i64_in _ (by omega)
end Go.Proofs.YtdbfpdhcaiiiaaaDoor

namespace Go.Proofs.YtdbfpdhcaiiiaaaDoor
open Go.RowKit

/-- A row of the call's own beside a field's box and another row. -/
structure TwoRows (w wr : World) (B B2 g n c : Nat) (f : Nat → Nat) (u : Value) (ys : List Int) (p d : Int) (v : Value) : Prop where
  row : RowRel w wr B g n c f
  fb : Arr wr w.heap.size 3 (three (.int .i64 p) (.int .i64 d) v)
  lo : w.heap.size < B
  lt : g < B2
  far : FarV B2 u
  iy : IntsAt wr u ys
theorem TwoRows.put {w wr : World} {B B2 g n c : Nat} {f : Nat → Nat} {u : Value} {ys : List Int} {p d : Int} {v : Value} (h : TwoRows w wr B B2 g n c f u ys p d v) {j : Nat} (hj : j < n) (x : Nat) :
    TwoRows w (wr.setCell ⟨g, j, none⟩ (.int .i64 (x : Int))) B B2 g n c (fun i => if i = j then x else f i) u ys p d v := by
  have hg := (h.row.own.cellAt (j := j) (by rw [nl_len]; exact hj)).2.2
  exact ⟨h.row.put hj x, Arr.setOther h.fb (by have := h.lo; show g ≠ _; omega) _, h.lo, h.lt, h.far, h.iy.setFar h.far h.lt _⟩
theorem TwoRows.congr {w wr : World} {B B2 g n c : Nat} {f f' : Nat → Nat} {u : Value} {ys : List Int} {p d : Int} {v : Value} (h : TwoRows w wr B B2 g n c f u ys p d v) (e : ∀ j, j < n → f j = f' j) : TwoRows w wr B B2 g n c f' u ys p d v :=
  ⟨h.row.congr e, h.fb, h.lo, h.lt, h.far, h.iy⟩
theorem TwoRows.drewN {w wr : World} {B B2 g n c : Nat} {f : Nat → Nat} {u : Value} {ys : List Int} {p d : Int} {v : Value} (h : TwoRows w wr B B2 g n c f u ys p d v) (m : Nat) : TwoRows w (wr.drewN m) B B2 g n c f u ys p d v :=
  ⟨h.row.drewN m, Arr.drewN h.fb m, h.lo, h.lt, h.far, h.iy.below (below_D _ _)⟩
theorem own_row {w : World} {B : Nat} {u : Value} {f : Nat → Nat} {n : Nat} (h : Own w B 3 u (nl f n)) (hn : 1 ≤ n) : ∃ g c, u = .slice (some ⟨g, 0, none⟩) n c ∧ g < w.heap.size := by
  rcases h.2 with ⟨_, h0⟩ | ⟨g, cap, cur, e, hg, hh, _⟩
  · rw [nl_len] at h0; omega
  · rw [nl_len] at e; exact ⟨g, cap, e, (Array.getElem?_eq_some_iff.1 hh).1⟩

set_option maxRecDepth 100000 in
set_option maxHeartbeats 4000000 in
theorem rsum_any (p d a b : Nat) (v : Value) (w : World) (hv : ∃ a l c, v = .slice a l c) (hp : 2 ≤ p) (hp2 : p ≤ 64) (hd1 : 1 ≤ d) (hd : d ≤ 6) (hq : p ^ d ≤ 64) (ha : a ≤ 64) (hb : b ≤ 64) :
    Calls Tryd.prog 34 #[.agg #[.int .i64 p, .int .i64 d, v], .int .i64 a, .int .i64 b] w fun e w' => e = .returned (.int .i64 (addV p d a b : Nat)) ∧ Below w.heap.size w w' := by
  obtain ⟨sa, sl, sc, rfl⟩ := hv
  have HS := Lib.hid (FbRel.begin w p d (.slice sa sl sc))
  have hp0 : ¬ p = 0 := by omega
  have HQ := Lib.hid hq
  have HD1 := Lib.hid (fun W => rdigits_any a p d W ha hp hp2 (by omega))
  have HD2 := Lib.hid (fun W => rdigits_any b p d W hb hp hp2 (by omega))
  clear hq
  go_enter Tryd.func34, Tryd.ntmps34
  go_wp2_with fail
  refine (HD1.out _).mono ?_
  rintro e w1 ⟨v1, rfl, ho1, hb1⟩
  obtain ⟨g1, c1, rfl, hg1⟩ := own_row ho1 hd1
  have HR1 := Lib.hid (HS.out.step hb1)
  have HO1 := Lib.hid ho1
  have HZ1 : Hid (w.heap.size < (w.alloc (.cells #[.int .i64 (p : Int), .int .i64 (d : Int), .slice sa sl sc] 24)).heap.size) := by show _ < _; simp
  obtain ⟨f0, f1, f2⟩ := HR1.out.cells
  clear ho1 hb1
  go_wp2_with fail
  refine (HD2.out _).mono ?_
  rintro e w2 ⟨v2, rfl, ho2, hb2⟩
  obtain ⟨g2, c2, rfl, hg2⟩ := own_row ho2 hd1
  have HT : Hid (TwoRows w w2 (w.alloc (.cells #[.int .i64 (p : Int), .int .i64 (d : Int), .slice sa sl sc] 24)).heap.size w1.heap.size g1 d c1 (dF p a) (.slice (some ⟨g2, 0, none⟩) d c2) (nl (dF p b) d) p d (.slice sa sl sc)) :=
    ⟨⟨(HR1.out.step hb2).bel, Nat.le_of_lt HZ1.out, HO1.out.below hb2⟩, (HR1.out.step hb2).fb, HZ1.out, hg1, ho2.far (Nat.le_refl _), ho2.intsAt (by rw [nl_len]; omega)⟩
  clear ho2 hb2 f0 f1 f2 HR1 HO1 HD1 HD2 HS hg1 hg2
  generalize (w.alloc (.cells #[.int .i64 (p : Int), .int .i64 (d : Int), .slice sa sl sc] 24)).heap.size = B at *
  go_wp2_with fail
  go_loopw [9] (fun u wr => ∃ i : Nat, i ≤ d ∧ u = .int .i64 i ∧ TwoRows w wr B w1.heap.size g1 d c1 (adF p (dF p a) (dF p b) i) (.slice (some ⟨g2, 0, none⟩) d c2) (nl (dF p b) d) p d (.slice sa sl sc)) (fun u _ => d - (intOf u).toNat)
  case atStart => exact ⟨0, by omega, rfl, HT.out.congr fun j _ => by unfold adF; rw [if_neg (by omega)]⟩
  case round =>
    clear HT
    obtain ⟨i, hi, rfl, hR⟩ := hrel
    have HR := Lib.hid hR; clear hR
    have f0 : wr.cell? ⟨w.heap.size, 0, none⟩ = some (.int .i64 (p : Int)) := HR.out.fb.cell (show 0 < 3 by omega)
    by_cases hlt : i < d
    · obtain ⟨k1, k2⟩ := HR.out.row.cell hlt
      have k3 : wr.cell? ⟨g2, i, none⟩ = some (.int .i64 ((dF p b i : Nat) : Int)) := by
        obtain ⟨a', c', e, _, _, _, h5⟩ := HR.out.iy
        injection e with e1 _ _
        obtain ⟨b', o', e2, _, hc⟩ := h5 i (by rw [nl_len]; exact hlt)
        rw [e2] at e1
        injection e1 with e1
        injection e1 with e3 e4 _
        subst e3; subst e4
        have := hc i (by rw [nl_len]; exact hlt)
        rw [nl_ix _ hlt, Nat.zero_add] at this
        exact this
      have hx : dF p a i < p := dF_lt (by omega)
      have hy : dF p b i < p := dF_lt (by omega)
      obtain ⟨v1, v2⟩ := sum_vals hp2 hx hy
      have e1 : adF p (dF p a) (dF p b) i i = dF p a i := by unfold adF; rw [if_neg (by omega)]
      rw [e1] at k1
      have HSR : Hid (((dF p a i + dF p b i : Nat) : Int) % (p : Int) = (((dF p a i + dF p b i) % p : Nat) : Int)) := (Int.natCast_emod _ _).symm
      have HPut : Hid (TwoRows w (wr.setCell ⟨g1, i, none⟩ (.int .i64 (((dF p a i + dF p b i : Nat) : Int) % (p : Int)))).drew B w1.heap.size g1 d c1 (adF p (dF p a) (dF p b) (i + 1)) (.slice (some ⟨g2, 0, none⟩) d c2) (nl (dF p b) d) p d (.slice sa sl sc)) := by
        show TwoRows _ _ _ _ _ _ _ _ _ _ _ _ _
        rw [HSR.out]
        exact TwoRows.drewN ((HR.out.put hlt _).congr fun j _ => adF_next p (dF p a) (dF p b) i j) 1
      have hid : (i : Int) < (d : Int) := by omega
      clear e1 HSR
      have hs : dF p a i + dF p b i ≤ 128 := by omega
      generalize dF p a i + dF p b i = S at *
      generalize dF p a i = A at *
      generalize dF p b i = Bb at *
      go_wp2_with fail
      go_region
      all_goals
        clear v1 v2 k1 k2 k3 f0
        go_wp2_with fail
        go_roundw
        case rel => exact ⟨i + 1, by omega, by go_num, HPut.out⟩
        case measure => simp [intOf]; omega
    · obtain rfl : i = d := by omega
      have hI : IntsAt wr (.slice (some ⟨g1, 0, none⟩) i c1) (nl (fun j => (dF p a j + dF p b j) % p) i) := by
        have := HR.out.row.own.intsAt (by rw [nl_len]; omega)
        rw [nl_congr (g := fun j => (dF p a j + dF p b j) % p) (fun j hj => by unfold adF; rw [if_pos hj])] at this
        exact this
      have HNum := Lib.hid (rnumber_any p i _ _ wr hI hp hp2 hd1 hd HQ.out (fun j _ => Nat.mod_lt _ (by omega)))
      clear hI
      go_wp2_with fail
      refine HNum.out.mono ?_
      rintro e w3 ⟨rfl, rfl⟩
      go_wp2_with fail
      go_ret
      exact ⟨rfl, HR.out.row.bel⟩

/-- The product's digits behind i digits of the first. -/
def prF (p m : Nat) (X Y : Nat → Nat) : Nat → Nat → Nat
  | 0, _ => 0
  | i + 1, j => if i ≤ j ∧ j < i + m then (prF p m X Y i j + X i * Y (j - i)) % p else prF p m X Y i j
/-- .. and behind k of the second. -/
def prK (p m : Nat) (X Y : Nat → Nat) (i k j : Nat) : Nat := if i ≤ j ∧ j < i + k then (prF p m X Y i j + X i * Y (j - i)) % p else prF p m X Y i j
theorem prK_zero (p m : Nat) (X Y : Nat → Nat) (i j : Nat) : prF p m X Y i j = prK p m X Y i 0 j := by unfold prK; rw [if_neg (by omega)]
theorem prK_at (p m : Nat) (X Y : Nat → Nat) (i k : Nat) : prK p m X Y i k (i + k) = prF p m X Y i (i + k) := by unfold prK; rw [if_neg (by omega)]
theorem prK_next (p m : Nat) (X Y : Nat → Nat) (i k j : Nat) : (if j = i + k then (prF p m X Y i (i + k) + X i * Y k) % p else prK p m X Y i k j) = prK p m X Y i (k + 1) j := by
  unfold prK
  by_cases e : j = i + k
  · subst e; rw [if_pos rfl, if_pos (show i ≤ i + k ∧ i + k < i + (k + 1) by omega), Nat.add_sub_cancel_left]
  · rw [if_neg e]
    by_cases e2 : i ≤ j ∧ j < i + k
    · rw [if_pos e2, if_pos (show i ≤ j ∧ j < i + (k + 1) by omega)]
    · rw [if_neg e2, if_neg (show ¬ (i ≤ j ∧ j < i + (k + 1)) by omega)]
theorem prK_done (p m : Nat) (X Y : Nat → Nat) (i j : Nat) : prK p m X Y i m j = prF p m X Y (i + 1) j := rfl
theorem prF_lt {p m : Nat} {X Y : Nat → Nat} (hp : 1 ≤ p) : ∀ i j, prF p m X Y i j < p
  | 0, j => by show 0 < p; omega
  | i + 1, j => by
    rw [prF]
    split
    · exact Nat.mod_lt _ (by omega)
    · exact prF_lt hp i j
end Go.Proofs.YtdbfpdhcaiiiaaaDoor
