/-
  Contracts: the reference's Sum, Product. No condition.
  Contracts: the reference's Product, Times. No condition.
-/
import Derived.Test.YtdbfpdhcaiiiaaaDoorPDifferMade20
import Derived.Test.YtdbfpdhcaiiiaaaDoorPDifferMade22
namespace Go.Proofs.YtdbfpdhcaiiiaaaDoor
open Go.RowKit

/-- A row of the call's own beside a field's box and another row. -/
structure TwoRows (w wr : World) (B B2 g n c : Nat) (f : Nat → Nat) (u : Value) (ys : List Int) (p d : Int) (v : Value) : Prop where
  row : RowRel w wr B g n c f
  fb : Arr wr w.heap.size 3 (three (.int .i64 p) (.int .i64 d) v)
  lo : w.heap.size < B
  lt : g < B2
  far : FarV B2 u
  iy : IntsAt wr u ys
theorem TwoRows.put {w wr : World} {B B2 g n c : Nat} {f : Nat → Nat} {u : Value} {ys : List Int} {p d : Int} {v : Value} (h : TwoRows w wr B B2 g n c f u ys p d v) {j : Nat} (hj : j < n) (x : Nat) :
    TwoRows w (wr.setCell ⟨g, j, none⟩ (.int .i64 (x : Int))) B B2 g n c (fun i => if i = j then x else f i) u ys p d v := by
  have hg := (h.row.own.cellAt (j := j) (by rw [nl_len]; exact hj)).2.2
  exact ⟨h.row.put hj x, Arr.setOther h.fb (by have := h.lo; show g ≠ _; omega) _, h.lo, h.lt, h.far, h.iy.setFar h.far h.lt _⟩
theorem TwoRows.congr {w wr : World} {B B2 g n c : Nat} {f f' : Nat → Nat} {u : Value} {ys : List Int} {p d : Int} {v : Value} (h : TwoRows w wr B B2 g n c f u ys p d v) (e : ∀ j, j < n → f j = f' j) : TwoRows w wr B B2 g n c f' u ys p d v :=
  ⟨h.row.congr e, h.fb, h.lo, h.lt, h.far, h.iy⟩
theorem TwoRows.drewN {w wr : World} {B B2 g n c : Nat} {f : Nat → Nat} {u : Value} {ys : List Int} {p d : Int} {v : Value} (h : TwoRows w wr B B2 g n c f u ys p d v) (m : Nat) : TwoRows w (wr.drewN m) B B2 g n c f u ys p d v :=
  ⟨h.row.drewN m, Arr.drewN h.fb m, h.lo, h.lt, h.far, h.iy.below (below_D _ _)⟩
theorem own_row {w : World} {B : Nat} {u : Value} {f : Nat → Nat} {n : Nat} (h : Own w B 3 u (nl f n)) (hn : 1 ≤ n) : ∃ g c, u = .slice (some ⟨g, 0, none⟩) n c ∧ g < w.heap.size := by
  rcases h.2 with ⟨_, h0⟩ | ⟨g, cap, cur, e, hg, hh, _⟩
  · rw [nl_len] at h0; omega
  · rw [nl_len] at e; exact ⟨g, cap, e, (Array.getElem?_eq_some_iff.1 hh).1⟩

set_option maxRecDepth 100000 in
set_option maxHeartbeats 4000000 in
theorem rsum_any (p d a b : Nat) (v : Value) (w : World) (hv : ∃ a l c, v = .slice a l c) (hp : 2 ≤ p) (hp2 : p ≤ 64) (hd1 : 1 ≤ d) (hd : d ≤ 6) (hq : p ^ d ≤ 64) (ha : a ≤ 64) (hb : b ≤ 64) :
    Calls Tryd.prog 34 #[.agg #[.int .i64 p, .int .i64 d, v], .int .i64 a, .int .i64 b] w fun e w' => e = .returned (.int .i64 (addV p d a b : Nat)) ∧ Below w.heap.size w w' := by
  obtain ⟨sa, sl, sc, rfl⟩ := hv
  have HS := Lib.hid (FbRel.begin w p d (.slice sa sl sc))
  have hp0 : ¬ p = 0 := by omega
  have HQ := Lib.hid hq
  have HD1 := Lib.hid (fun W => rdigits_any a p d W ha hp hp2 (by omega))
  have HD2 := Lib.hid (fun W => rdigits_any b p d W hb hp hp2 (by omega))
  clear hq
  go_enter Tryd.func34, Tryd.ntmps34
  go_wp2_with fail
  refine (HD1.out _).mono ?_
  rintro e w1 ⟨v1, rfl, ho1, hb1⟩
  obtain ⟨g1, c1, rfl, hg1⟩ := own_row ho1 hd1
  have HR1 := Lib.hid (HS.out.step hb1)
  have HO1 := Lib.hid ho1
  have HZ1 : Hid (w.heap.size < (w.alloc (.cells #[.int .i64 (p : Int), .int .i64 (d : Int), .slice sa sl sc] 24)).heap.size) := by show _ < _; simp
  obtain ⟨f0, f1, f2⟩ := HR1.out.cells
  clear ho1 hb1
  go_wp2_with fail
  refine (HD2.out _).mono ?_
  rintro e w2 ⟨v2, rfl, ho2, hb2⟩
  obtain ⟨g2, c2, rfl, hg2⟩ := own_row ho2 hd1
  have HT : Hid (TwoRows w w2 (w.alloc (.cells #[.int .i64 (p : Int), .int .i64 (d : Int), .slice sa sl sc] 24)).heap.size w1.heap.size g1 d c1 (dF p a) (.slice (some ⟨g2, 0, none⟩) d c2) (nl (dF p b) d) p d (.slice sa sl sc)) :=
    ⟨⟨(HR1.out.step hb2).bel, Nat.le_of_lt HZ1.out, HO1.out.below hb2⟩, (HR1.out.step hb2).fb, HZ1.out, hg1, ho2.far (Nat.le_refl _), ho2.intsAt (by rw [nl_len]; omega)⟩
  clear ho2 hb2 f0 f1 f2 HR1 HO1 HD1 HD2 HS hg1 hg2
  generalize (w.alloc (.cells #[.int .i64 (p : Int), .int .i64 (d : Int), .slice sa sl sc] 24)).heap.size = B at *
  go_wp2_with fail
  go_loopw [9] (fun u wr => ∃ i : Nat, i ≤ d ∧ u = .int .i64 i ∧ TwoRows w wr B w1.heap.size g1 d c1 (adF p (dF p a) (dF p b) i) (.slice (some ⟨g2, 0, none⟩) d c2) (nl (dF p b) d) p d (.slice sa sl sc)) (fun u _ => d - (intOf u).toNat)
  case atStart => exact ⟨0, by omega, rfl, HT.out.congr fun j _ => by unfold adF; rw [if_neg (by omega)]⟩
  case round =>
    clear HT
    obtain ⟨i, hi, rfl, hR⟩ := hrel
    have HR := Lib.hid hR; clear hR
    have f0 : wr.cell? ⟨w.heap.size, 0, none⟩ = some (.int .i64 (p : Int)) := HR.out.fb.cell (show 0 < 3 by omega)
    by_cases hlt : i < d
    · obtain ⟨k1, k2⟩ := HR.out.row.cell hlt
      have k3 : wr.cell? ⟨g2, i, none⟩ = some (.int .i64 ((dF p b i : Nat) : Int)) := by
        obtain ⟨a', c', e, _, _, _, h5⟩ := HR.out.iy
        injection e with e1 _ _
        obtain ⟨b', o', e2, _, hc⟩ := h5 i (by rw [nl_len]; exact hlt)
        rw [e2] at e1
        injection e1 with e1
        injection e1 with e3 e4 _
        subst e3; subst e4
        have := hc i (by rw [nl_len]; exact hlt)
        rw [nl_ix _ hlt, Nat.zero_add] at this
        exact this
      have hx : dF p a i < p := dF_lt (by omega)
      have hy : dF p b i < p := dF_lt (by omega)
      obtain ⟨v1, v2⟩ := sum_vals hp2 hx hy
      have e1 : adF p (dF p a) (dF p b) i i = dF p a i := by unfold adF; rw [if_neg (by omega)]
      rw [e1] at k1
      have HSR : Hid (((dF p a i + dF p b i : Nat) : Int) % (p : Int) = (((dF p a i + dF p b i) % p : Nat) : Int)) := (Int.natCast_emod _ _).symm
      have HPut : Hid (TwoRows w (wr.setCell ⟨g1, i, none⟩ (.int .i64 (((dF p a i + dF p b i : Nat) : Int) % (p : Int)))).drew B w1.heap.size g1 d c1 (adF p (dF p a) (dF p b) (i + 1)) (.slice (some ⟨g2, 0, none⟩) d c2) (nl (dF p b) d) p d (.slice sa sl sc)) := by
        show TwoRows _ _ _ _ _ _ _ _ _ _ _ _ _
        rw [HSR.out]
        exact TwoRows.drewN ((HR.out.put hlt _).congr fun j _ => adF_next p (dF p a) (dF p b) i j) 1
      have hid : (i : Int) < (d : Int) := by omega
      clear e1 HSR
      have hs : dF p a i + dF p b i ≤ 128 := by omega
      generalize dF p a i + dF p b i = S at *
      generalize dF p a i = A at *
      generalize dF p b i = Bb at *
      go_wp2_with fail
      go_region
      all_goals
        clear v1 v2 k1 k2 k3 f0
        go_wp2_with fail
        go_roundw
        case rel => exact ⟨i + 1, by omega, by go_num, HPut.out⟩
        case measure => simp [intOf]; omega
    · obtain rfl : i = d := by omega
      have hI : IntsAt wr (.slice (some ⟨g1, 0, none⟩) i c1) (nl (fun j => (dF p a j + dF p b j) % p) i) := by
        have := HR.out.row.own.intsAt (by rw [nl_len]; omega)
        rw [nl_congr (g := fun j => (dF p a j + dF p b j) % p) (fun j hj => by unfold adF; rw [if_pos hj])] at this
        exact this
      have HNum := Lib.hid (rnumber_any p i _ _ wr hI hp hp2 hd1 hd HQ.out (fun j _ => Nat.mod_lt _ (by omega)))
      clear hI
      go_wp2_with fail
      refine HNum.out.mono ?_
      rintro e w3 ⟨rfl, rfl⟩
      go_wp2_with fail
      go_ret
      exact ⟨rfl, HR.out.row.bel⟩

/-- The product's digits behind i digits of the first. -/
def prF (p m : Nat) (X Y : Nat → Nat) : Nat → Nat → Nat
  | 0, _ => 0
  | i + 1, j => if i ≤ j ∧ j < i + m then (prF p m X Y i j + X i * Y (j - i)) % p else prF p m X Y i j
/-- .. and behind k of the second. -/
def prK (p m : Nat) (X Y : Nat → Nat) (i k j : Nat) : Nat := if i ≤ j ∧ j < i + k then (prF p m X Y i j + X i * Y (j - i)) % p else prF p m X Y i j
theorem prK_zero (p m : Nat) (X Y : Nat → Nat) (i j : Nat) : prF p m X Y i j = prK p m X Y i 0 j := by unfold prK; rw [if_neg (by omega)]
theorem prK_at (p m : Nat) (X Y : Nat → Nat) (i k : Nat) : prK p m X Y i k (i + k) = prF p m X Y i (i + k) := by unfold prK; rw [if_neg (by omega)]
theorem prK_next (p m : Nat) (X Y : Nat → Nat) (i k j : Nat) : (if j = i + k then (prF p m X Y i (i + k) + X i * Y k) % p else prK p m X Y i k j) = prK p m X Y i (k + 1) j := by
  unfold prK
  by_cases e : j = i + k
  · subst e; rw [if_pos rfl, if_pos (show i ≤ i + k ∧ i + k < i + (k + 1) by omega), Nat.add_sub_cancel_left]
  · rw [if_neg e]
    by_cases e2 : i ≤ j ∧ j < i + k
    · rw [if_pos e2, if_pos (show i ≤ j ∧ j < i + (k + 1) by omega)]
    · rw [if_neg e2, if_neg (show ¬ (i ≤ j ∧ j < i + (k + 1)) by omega)]
theorem prK_done (p m : Nat) (X Y : Nat → Nat) (i j : Nat) : prK p m X Y i m j = prF p m X Y (i + 1) j := rfl
theorem prF_lt {p m : Nat} {X Y : Nat → Nat} (hp : 1 ≤ p) : ∀ i j, prF p m X Y i j < p
  | 0, j => by show 0 < p; omega
  | i + 1, j => by
    rw [prF]
    split
    · exact Nat.mod_lt _ (by omega)
    · exact prF_lt hp i j
end Go.Proofs.YtdbfpdhcaiiiaaaDoor

namespace Go.Proofs.YtdbfpdhcaiiiaaaDoor
open Go.RowKit

theorem own_of_made {w : World} {base g n : Nat} {t : TypeId} (h : w.ownsRow base t 1 (.slice (some ⟨g, 0, none⟩) n n) n (madeCells #[Value.int .i64 0] (n * 1)).toList) : Own w base t (.slice (some ⟨g, 0, none⟩) n n) (nl (fun _ => 0) n) := by
  unfold Own
  rw [nl_len]
  have e : cellsOf (nl (fun _ => 0) n) = (madeCells #[Value.int .i64 0] (n * 1)).toList := by
    rw [madeCells_one, Nat.mul_one]
    apply List.ext_getElem
    · simp [cellsOf, nl]
    · intro i h1 h2
      simp [cellsOf, nl]
  rw [e]
  exact h

set_option maxRecDepth 100000 in
set_option maxHeartbeats 4000000 in
theorem rproduct_any (p d : Nat) (vx vy : Value) (X Y : Nat → Nat) (w : World) (hx : IntsAt w vx (nl X d)) (hy : IntsAt w vy (nl Y d)) (hp : 2 ≤ p) (hp2 : p ≤ 64) (hd1 : 1 ≤ d) (hd : d ≤ 6) (hX : ∀ j, j < d → X j < p) (hY : ∀ j, j < d → Y j < p) :
    Calls Tryd.prog 54 #[vx, vy, .int .i64 p] w fun e w' => ∃ g c, e = .returned (.slice (some ⟨g, 0, none⟩) (d + d) c) ∧ RowRel w w' w.heap.size g (d + d) c (prF p d X Y d) := by
  obtain ⟨i0, hi0, hz0, hz1, hz2⟩ := info_parts info_int
  have hp0 : ¬ p = 0 := by omega
  obtain ⟨xa, xc, rfl, _, _, _, x3⟩ := id hx
  obtain ⟨ya, yc, rfl, _, _, _, y3⟩ := id hy
  rw [nl_len] at x3 y3
  rw [nl_len, nl_len]
  have HX := Lib.hid x3; have HY := Lib.hid y3
  have HXl := Lib.hid hX; have HYl := Lib.hid hY
  clear x3 y3 hx hy hX hY
  go_enter Tryd.func54, Tryd.ntmps54
  go_wp2_with (at_make; go_must (refine wpList_make_full _ rfl _ _ _ rfl w.heap.size 3 i0 _ 1 Tryd.underlying22 hi0 hz0 hz1 _ _ _ _ (d + d) rfl rfl rfl rfl (by rw [hz2]; omega) (by unfold maxLen; omega) (Nat.le_refl _) ?_; intro w2 hown2 hgrow2))
  have HR0 : Hid (RowRel w w2 w.heap.size w.heap.size (d + d) (d + d) (prF p d X Y 0)) := ⟨below_grown (v := .slice none 0 0) hgrow2 (B := w.heap.size) (by intro k hk; cases hk) (Nat.le_refl _), Nat.le_refl _, own_of_made hown2⟩
  clear hown2 hgrow2
  obtain ⟨g, hg⟩ : ∃ g, g = w.heap.size := ⟨_, rfl⟩
  have HR1 : Hid (RowRel w w2 w.heap.size g (d + d) (d + d) (prF p d X Y 0)) := by show RowRel _ _ _ _ _ _ _; rw [hg]; exact HR0.out
  rw [← hg]
  clear HR0 hg
  go_loopw [8, 9] (fun u _ wr => ∃ i : Nat, i ≤ d ∧ u = .int .i64 i ∧ RowRel w wr w.heap.size g (d + d) (d + d) (prF p d X Y i)) (fun u _ _ => d - (intOf u).toNat)
  case atStart => exact ⟨0, by omega, rfl, HR1.out⟩
  case round =>
    clear HR1
    obtain ⟨i, hi, rfl, hR⟩ := hrel
    have HR := Lib.hid hR; clear hR
    by_cases hlt : i < d
    · obtain ⟨bx, ox, rfl, hbx, hcx⟩ := HX.out i hlt
      have HCX := Lib.hid (hcx i hlt)
      rw [nl_ix X hlt] at HCX
      clear hcx
      go_wp2_with fail
      go_loopw [9] (fun u wr => ∃ k : Nat, k ≤ d ∧ u = .int .i64 k ∧ RowRel w wr w.heap.size g (d + d) (d + d) (prK p d X Y i k)) (fun u _ => d - (intOf u).toNat)
      case atStart => exact ⟨0, by omega, rfl, HR.out.congr fun j _ => prK_zero p d X Y i j⟩
      case round =>
        clear HR
        obtain ⟨k, hk, rfl, hR⟩ := hrel
        have HR := Lib.hid hR; clear hR
        by_cases hkt : k < d
        · obtain ⟨by', oy, rfl, hby, hcy⟩ := HY.out k hkt
          have c3 := hcy k hkt
          rw [nl_ix Y hkt, ← HR.out.bel.cell (p := ⟨by', oy + k, none⟩) hby] at c3
          have c4 := HCX.out
          rw [← HR.out.bel.cell (p := ⟨bx, ox + i, none⟩) hbx] at c4
          clear hcy
          have hik : i + k < d + d := by omega
          obtain ⟨c1, c2⟩ := HR.out.cell hik
          rw [prK_at] at c1
          have hxl := HXl.out i hlt; have hyl := HYl.out k hkt
          have hob := prF_lt (p := p) (m := d) (X := X) (Y := Y) (by omega) i (i + k)
          obtain ⟨v1, v2, v3⟩ := prod_vals (p := p) hp2 hob hxl hyl
          have HSR : Hid (((prF p d X Y i (i + k) + X i * Y k : Nat) : Int) % (p : Int) = (((prF p d X Y i (i + k) + X i * Y k) % p : Nat) : Int)) := (Int.natCast_emod _ _).symm
          have HPut : Hid (RowRel w (wr.setCell ⟨g, i + k, none⟩ (.int .i64 (((prF p d X Y i (i + k) + X i * Y k : Nat) : Int) % (p : Int)))).drew w.heap.size g (d + d) (d + d) (prK p d X Y i (k + 1))) := by
            show RowRel _ _ _ _ _ _ _
            rw [HSR.out]
            exact RowRel.drewN ((HR.out.put hik _).congr fun j _ => prK_next p d X Y i k j) 1
          have hm : X i * Y k ≤ 64 * 64 := Nat.mul_le_mul (by omega) (by omega)
          have hs1 : IntKind.i64.wrap ((i : Int) + (k : Int)) = (i : Int) + (k : Int) := IntWalk.i64_in _ (by omega)
          have hs2 : (i : Int) + (k : Int) < (d : Int) + (d : Int) := by omega
          have hs3 : ((i : Int) + (k : Int)).toNat = i + k := by omega
          have hid : (i : Int) < (d : Int) := by omega
          have hkd : (k : Int) < (d : Int) := by omega
          clear HSR
          generalize X i * Y k = M at *
          have hs : prF p d X Y i (i + k) + M ≤ 5000 := by omega
          generalize prF p d X Y i (i + k) + M = S at *
          generalize prF p d X Y i (i + k) = OO at *
          generalize X i = XX at *
          generalize Y k = YY at *
          go_wp2_with fail
          go_region
          all_goals
            clear v1 v2 v3 c1 c2 c3 c4 hs1 hs2 hs3
            go_wp2_with fail
            go_roundw
            case rel => exact ⟨k + 1, by omega, by go_num, HPut.out⟩
            case measure => simp [intOf]; omega
        · obtain rfl : k = d := by omega
          have HR2 : Hid (RowRel w wr w.heap.size g (k + k) (k + k) (prF p k X Y (i + 1))) := HR.out
          clear HR
          go_wp2_with fail
          go_roundw
          case rel => exact ⟨i + 1, by omega, by go_num, HR2.out⟩
          case measure => simp [intOf]; omega
    · obtain rfl : i = d := by omega
      go_wp2_with fail
      go_ret
      exact ⟨g, _, rfl, HR.out⟩
end Go.Proofs.YtdbfpdhcaiiiaaaDoor
