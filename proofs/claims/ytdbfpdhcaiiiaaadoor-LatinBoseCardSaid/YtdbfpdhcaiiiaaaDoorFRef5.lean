/-
  Contracts: the reference's Product, Times. No condition.
-/
import Derived.Test.YtdbfpdhcaiiiaaaDoorFRef4
namespace Go.Proofs.YtdbfpdhcaiiiaaaDoor
open Go.RowKit

theorem own_of_made {w : World} {base g n : Nat} {t : TypeId} (h : w.ownsRow base t 1 (.slice (some ⟨g, 0, none⟩) n n) n (madeCells #[Value.int .i64 0] (n * 1)).toList) : Own w base t (.slice (some ⟨g, 0, none⟩) n n) (nl (fun _ => 0) n) := by
  unfold Own
  rw [nl_len]
  have e : cellsOf (nl (fun _ => 0) n) = (madeCells #[Value.int .i64 0] (n * 1)).toList := by
    rw [madeCells_one, Nat.mul_one]
    apply List.ext_getElem
    · simp [cellsOf, nl]
    · intro i h1 h2
      simp [cellsOf, nl]
  rw [e]
  exact h

set_option maxRecDepth 100000 in
set_option maxHeartbeats 4000000 in
theorem rproduct_any (p d : Nat) (vx vy : Value) (X Y : Nat → Nat) (w : World) (hx : IntsAt w vx (nl X d)) (hy : IntsAt w vy (nl Y d)) (hp : 2 ≤ p) (hp2 : p ≤ 64) (hd1 : 1 ≤ d) (hd : d ≤ 6) (hX : ∀ j, j < d → X j < p) (hY : ∀ j, j < d → Y j < p) :
    Calls Tryd.prog 54 #[vx, vy, .int .i64 p] w fun e w' => ∃ g c, e = .returned (.slice (some ⟨g, 0, none⟩) (d + d) c) ∧ RowRel w w' w.heap.size g (d + d) c (prF p d X Y d) := by
  obtain ⟨i0, hi0, hz0, hz1, hz2⟩ := info_parts info_int
  have hp0 : ¬ p = 0 := by omega
  obtain ⟨xa, xc, rfl, _, _, _, x3⟩ := id hx
  obtain ⟨ya, yc, rfl, _, _, _, y3⟩ := id hy
  rw [nl_len] at x3 y3
  rw [nl_len, nl_len]
  have HX := Lib.hid x3; have HY := Lib.hid y3
  have HXl := Lib.hid hX; have HYl := Lib.hid hY
  clear x3 y3 hx hy hX hY
  go_enter Tryd.func54, Tryd.ntmps54
  go_wp2_with (at_make; go_must (refine wpList_make_full _ rfl _ _ _ rfl w.heap.size 3 i0 _ 1 Tryd.underlying22 hi0 hz0 hz1 _ _ _ _ (d + d) rfl rfl rfl rfl (by rw [hz2]; omega) (by unfold maxLen; omega) (Nat.le_refl _) ?_; intro w2 hown2 hgrow2))
  have HR0 : Hid (RowRel w w2 w.heap.size w.heap.size (d + d) (d + d) (prF p d X Y 0)) := ⟨below_grown (v := .slice none 0 0) hgrow2 (B := w.heap.size) (by intro k hk; cases hk) (Nat.le_refl _), Nat.le_refl _, own_of_made hown2⟩
  clear hown2 hgrow2
  obtain ⟨g, hg⟩ : ∃ g, g = w.heap.size := ⟨_, rfl⟩
  have HR1 : Hid (RowRel w w2 w.heap.size g (d + d) (d + d) (prF p d X Y 0)) := by show RowRel _ _ _ _ _ _ _; rw [hg]; exact HR0.out
  rw [← hg]
  clear HR0 hg
  go_loopw [8, 9] (fun u _ wr => ∃ i : Nat, i ≤ d ∧ u = .int .i64 i ∧ RowRel w wr w.heap.size g (d + d) (d + d) (prF p d X Y i)) (fun u _ _ => d - (intOf u).toNat)
  case atStart => exact ⟨0, by omega, rfl, HR1.out⟩
  case round =>
    clear HR1
    obtain ⟨i, hi, rfl, hR⟩ := hrel
    have HR := Lib.hid hR; clear hR
    by_cases hlt : i < d
    · obtain ⟨bx, ox, rfl, hbx, hcx⟩ := HX.out i hlt
      have HCX := Lib.hid (hcx i hlt)
      rw [nl_ix X hlt] at HCX
      clear hcx
      go_wp2_with fail
      go_loopw [9] (fun u wr => ∃ k : Nat, k ≤ d ∧ u = .int .i64 k ∧ RowRel w wr w.heap.size g (d + d) (d + d) (prK p d X Y i k)) (fun u _ => d - (intOf u).toNat)
      case atStart => exact ⟨0, by omega, rfl, HR.out.congr fun j _ => prK_zero p d X Y i j⟩
      case round =>
        clear HR
        obtain ⟨k, hk, rfl, hR⟩ := hrel
        have HR := Lib.hid hR; clear hR
        by_cases hkt : k < d
        · obtain ⟨by', oy, rfl, hby, hcy⟩ := HY.out k hkt
          have c3 := hcy k hkt
          rw [nl_ix Y hkt, ← HR.out.bel.cell (p := ⟨by', oy + k, none⟩) hby] at c3
          have c4 := HCX.out
          rw [← HR.out.bel.cell (p := ⟨bx, ox + i, none⟩) hbx] at c4
          clear hcy
          have hik : i + k < d + d := by omega
          obtain ⟨c1, c2⟩ := HR.out.cell hik
          rw [prK_at] at c1
          have hxl := HXl.out i hlt; have hyl := HYl.out k hkt
          have hob := prF_lt (p := p) (m := d) (X := X) (Y := Y) (by omega) i (i + k)
          obtain ⟨v1, v2, v3⟩ := prod_vals (p := p) hp2 hob hxl hyl
          have HSR : Hid (((prF p d X Y i (i + k) + X i * Y k : Nat) : Int) % (p : Int) = (((prF p d X Y i (i + k) + X i * Y k) % p : Nat) : Int)) := (Int.natCast_emod _ _).symm
          have HPut : Hid (RowRel w (wr.setCell ⟨g, i + k, none⟩ (.int .i64 (((prF p d X Y i (i + k) + X i * Y k : Nat) : Int) % (p : Int)))).drew w.heap.size g (d + d) (d + d) (prK p d X Y i (k + 1))) := by
            show RowRel _ _ _ _ _ _ _
            rw [HSR.out]
            exact RowRel.drewN ((HR.out.put hik _).congr fun j _ => prK_next p d X Y i k j) 1
          have hm : X i * Y k ≤ 64 * 64 := Nat.mul_le_mul (by omega) (by omega)
          have hs1 : IntKind.i64.wrap ((i : Int) + (k : Int)) = (i : Int) + (k : Int) := IntWalk.i64_in _ (by omega)
          have hs2 : (i : Int) + (k : Int) < (d : Int) + (d : Int) := by omega
          have hs3 : ((i : Int) + (k : Int)).toNat = i + k := by omega
          have hid : (i : Int) < (d : Int) := by omega
          have hkd : (k : Int) < (d : Int) := by omega
          clear HSR
          generalize X i * Y k = M at *
          have hs : prF p d X Y i (i + k) + M ≤ 5000 := by omega
          generalize prF p d X Y i (i + k) + M = S at *
          generalize prF p d X Y i (i + k) = OO at *
          generalize X i = XX at *
          generalize Y k = YY at *
          go_wp2_with fail
          go_region
          all_goals
            clear v1 v2 v3 c1 c2 c3 c4 hs1 hs2 hs3
            go_wp2_with fail
            go_roundw
            case rel => exact ⟨k + 1, by omega, by go_num, HPut.out⟩
            case measure => simp [intOf]; omega
        · obtain rfl : k = d := by omega
          have HR2 : Hid (RowRel w wr w.heap.size g (k + k) (k + k) (prF p k X Y (i + 1))) := HR.out
          clear HR
          go_wp2_with fail
          go_roundw
          case rel => exact ⟨i + 1, by omega, by go_num, HR2.out⟩
          case measure => simp [intOf]; omega
    · obtain rfl : i = d := by omega
      go_wp2_with fail
      go_ret
      exact ⟨g, _, rfl, HR.out⟩
end Go.Proofs.YtdbfpdhcaiiiaaaDoor
