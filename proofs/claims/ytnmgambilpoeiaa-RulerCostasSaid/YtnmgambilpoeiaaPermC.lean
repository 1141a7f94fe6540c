/-
  Contract: perm.Check: what is wrong with a permutation. No condition.
-/
import Derived.Test.YtnmgambilpoeiaaOwn
import Derived.Test.YtnmgambilpoeiaaSets
import Derived.Test.YtnmgambilpoeiaaRise
namespace Go.Proofs.Ytnmgambilpoeiaa
open Go.RowKit

/-- How often q stands among the first i. -/
def pcnt (xs : List Int) : Nat → Nat → Nat
  | 0, _ => 0
  | i + 1, q => pcnt xs i q + if ix xs i = (q : Int) then 1 else 0
theorem pcnt_le (xs : List Int) (q : Nat) : ∀ i, pcnt xs i q ≤ i
  | 0 => Nat.le_refl _
  | i + 1 => by have := pcnt_le xs q i; rw [pcnt]; split <;> omega
/-- Does one of the first m numbers stand twice? -/
def twB (xs : List Int) : Nat → Bool
  | 0 => false
  | m + 1 => twB xs m || decide (1 < pcnt xs xs.length m)
theorem twB_up {xs : List Int} : ∀ {m k : Nat}, twB xs k = true → k ≤ m → twB xs m = true
  | 0, k, h, hk => by obtain rfl : k = 0 := by omega
                      exact h
  | m + 1, k, h, hk => by
    by_cases e : k = m + 1
    · subst e; exact h
    · rw [twB, twB_up h (by omega)]; rfl
/-- What perm.Check tells. -/
def permF (xs : List Int) : Int := if 12 < xs.length then 3 else if anyB (outV xs.length) xs then 1 else if twB xs xs.length then 6 else 0
theorem any_hit {p : Int → Bool} {xs : List Int} {i : Nat} (hi : i < xs.length) (h : p (ix xs i) = true) : anyB p xs = true := by
  rw [anyB, List.any_eq_true]; exact ⟨_, ix_mem hi, h⟩
theorem run_arr12 (w : World) (b h : Nat) (hh : h ≤ 12) :
    (Instr.sliceAt 67 (.pointer (some ⟨b, 0, none⟩)) none (some (.int .i64 (h : Int))) none).run Try.prog w = .ok (.slice (some ⟨b, 0, none⟩) h 12) w := by
  have e : Try.prog.arrayLen 67 = 12 := by kernel_rfl
  have hu : Try.prog.underlying 67 = some (.array (Try.prog.arrayLen 67) (Try.prog.elem 67)) := by kernel_rfl
  have hs : (Go.sizeOf (Try.prog.elem 67)).run Try.prog w = .ok 1 w := by kernel_rfl
  rw [run_sliceAt_array_h w 67 ⟨b, 0, none⟩ hu .i64 h (by omega) (by rw [e]; omega), hs, e]
  simp [Result.andThen, slicedAt, Addr.add]

set_option maxRecDepth 100000 in
set_option maxHeartbeats 2000000 in
theorem permCheck_any (v : Value) (xs : List Int) (w : World) (h : IntsAt w v xs) :
    Calls Try.prog 32 #[v] w fun e w' => e = .returned (.int .i64 (permF xs)) ∧ Below w.heap.size w w' := by
  obtain ⟨a, c, rfl, h1, h2, _, h3⟩ := h
  have HX := Lib.hid h3; clear h3
  by_cases hl : 12 < xs.length
  · have H : Hid (permF xs = 3) := by show _ = _; unfold permF; rw [if_pos hl]
    have ed : decide (12 < xs.length) = true := by simpa using hl
    have ed' : decide ((12 : Int) < ((xs.length : Nat) : Int)) = true := by simp; omega
    clear hl
    go_enter Try.func32, Try.ntmps32
    go_wp2_with fail
    go_ret
    exact ⟨ret_int H.out.symm, Below.refl _ _⟩
  · have H : Hid (permF xs = if anyB (outV xs.length) xs then 1 else if twB xs xs.length then 6 else 0) := by show _ = _; unfold permF; rw [if_neg hl]
    have ed : decide (12 < xs.length) = false := by simpa using hl
    have ed' : decide ((12 : Int) < ((xs.length : Nat) : Int)) = false := by simp; omega
    have hl12 : xs.length ≤ 12 := by omega
    clear hl
    go_enter Try.func32, Try.ntmps32
    go_wp2_with fail
    go_loopw [13] (fun s wr => ∃ i : Nat, i ≤ xs.length ∧ s = .int .i64 i ∧ (∀ k, k < i → 0 ≤ ix xs k ∧ ix xs k < xs.length) ∧ Nums wr w.heap.size 12 (fun q => ((pcnt xs i q : Nat) : Int)) ∧ Below w.heap.size w wr) (fun s _ => xs.length - (intOf s).toNat)
    case atStart => exact ⟨0, by omega, rfl, fun k hk => by omega, Arr.newOf _ 12 _ _ _ rfl, below_box _ _⟩
    case round =>
      obtain ⟨i, hi, rfl, hr, hN, hB⟩ := hrel
      have HR := Lib.hid hr; have HN := Lib.hid hN; have HB := Lib.hid hB
      clear hr hN hB
      by_cases hlt : i < xs.length
      · obtain ⟨b, o, rfl, hbb, hcc⟩ := HX.out i hlt
        have hci : wr.cell? ⟨b, o + i, none⟩ = some (.int .i64 (ix xs i)) := by rw [(bcell HB.out).1 _ _ hbb]; exact hcc i hlt
        clear hcc
        by_cases hb : 0 ≤ ix xs i ∧ ix xs i < xs.length
        · have HRn : Hid (∀ k, k < i + 1 → 0 ≤ ix xs k ∧ ix xs k < xs.length) := fun k hk => by
            by_cases e : k = i
            · subst e; exact hb
            · exact HR.out k (by omega)
          obtain ⟨q, hq⟩ := Int.eq_ofNat_of_zero_le hb.1
          have HPc : Hid (∀ z, pcnt xs (i + 1) z = pcnt xs i z + if (q : Int) = (z : Int) then 1 else 0) := fun z => by rw [pcnt, hq]
          rw [hq] at hci hb
          clear hq
          have hq1 : q < xs.length := by omega
          have hq12 : q < 12 := by omega
          have s1 : decide ((q : Int) < 0) = false := decide_eq_false (by omega)
          have s2 : decide (((xs.length : Nat) : Int) ≤ (q : Int)) = false := by simp; omega
          have hqi : (q : Int) < 12 := by omega
          have c1 : wr.cell? ⟨w.heap.size, q, none⟩ = some (.int .i64 ((pcnt xs i q : Nat) : Int)) := HN.out.cell hq12
          have c2 := HN.out.free hq12
          have hle := pcnt_le xs q i
          have HN2 : Hid (∀ x : Int, x = ((pcnt xs i q : Nat) : Int) + 1 → Nums (wr.setCell ⟨w.heap.size, q, none⟩ (.int .i64 x)) w.heap.size 12 (fun z => ((pcnt xs (i + 1) z : Nat) : Int))) := fun x hx => by
            refine (Nums.set HN.out hq12 x).congr fun z hz => ?_
            show Value.int .i64 (if z = q then x else ((pcnt xs i z : Nat) : Int)) = Value.int .i64 ((pcnt xs (i + 1) z : Nat) : Int)
            congr 1
            rw [HPc.out z]
            by_cases e : z = q
            · subst e; rw [if_pos rfl, if_pos rfl, hx]; omega
            · rw [if_neg e, if_neg (by omega)]; omega
          clear hb
          generalize pcnt xs i q = C at *
          go_wp2_with fail
          go_roundw
          case rel => exact ⟨i + 1, by omega, by go_num, HRn.out, HN2.out _ (by go_num), HB.out.setCell (Nat.le_refl _) _⟩
          case measure => first | (simp [intOf]; omega) | omega
        · have HA : Hid (permF xs = 1) := by
            show _ = _
            rw [H.out, if_pos (any_hit hlt (by
              by_cases h0 : ix xs i < 0
              · exact outV_neg h0
              · rw [outV_pos h0]; exact decide_eq_true (by omega)))]
          generalize ix xs i = A at *
          by_cases h0 : A < 0
          · have s1 : decide (A < 0) = true := by simpa using h0
            clear hb h0
            go_wp2_with fail
            go_ret
            exact ⟨ret_int HA.out.symm, HB.out⟩
          · have s1 : decide (A < 0) = false := by simpa using h0
            have s2 : decide (((xs.length : Nat) : Int) ≤ A) = true := by simp; omega
            clear hb h0
            go_wp2_with fail
            go_ret
            exact ⟨ret_int HA.out.symm, HB.out⟩
      · obtain rfl : i = xs.length := by omega
        have HA : Hid (permF xs = if twB xs xs.length then 6 else 0) := by
          show _ = _
          rw [H.out, if_neg]
          intro hc
          rw [anyB, List.any_eq_true] at hc
          obtain ⟨x, hx, hc⟩ := hc
          obtain ⟨k, hk, rfl⟩ := ix_of_mem hx
          have := HR.out k hk
          rw [outV_pos (by omega)] at hc
          simp at hc; omega
        have hsl := fun W => run_arr12 W w.heap.size xs.length hl12
        go_wp2_with fail
        clear hsl
        go_loopw [35] (fun s wr2 => ∃ m nd : Nat, m ≤ xs.length ∧ s = .int .i64 m ∧ twB xs m = false ∧ wr2 = wr.drewN nd) (fun s _ => xs.length - (intOf s).toNat)
        case atStart => exact ⟨0, 0, by omega, rfl, rfl, rfl⟩
        case round =>
          obtain ⟨m, nd, hm, rfl, ht, rfl⟩ := hrel
          have HT := Lib.hid ht; clear ht
          by_cases hlt : m < xs.length
          · have c1 : wr.cell? ⟨w.heap.size, m, none⟩ = some (.int .i64 ((pcnt xs xs.length m : Nat) : Int)) := HN.out.cell (show m < 12 by omega)
            have hle := pcnt_le xs m xs.length
            by_cases e : 1 < pcnt xs xs.length m
            · have HF : Hid (permF xs = 6) := by
                show _ = _
                rw [HA.out, twB_up (k := m + 1) (by rw [twB]; simp [e]) hlt]; rfl
              have s1 : decide ((1 : Int) < ((pcnt xs xs.length m : Nat) : Int)) = true := by simp; omega
              have s1' : decide (1 < pcnt xs xs.length m) = true := by simpa using e
              clear e
              generalize pcnt xs xs.length m = C at *
              go_wp2_with fail
              go_ret
              exact ⟨ret_int HF.out.symm, below_drewN HB.out _⟩
            · have HT2 : Hid (twB xs (m + 1) = false) := by show _ = _; rw [twB, HT.out]; simpa using e
              have s1 : decide ((1 : Int) < ((pcnt xs xs.length m : Nat) : Int)) = false := by simp; omega
              have s1' : decide (1 < pcnt xs xs.length m) = false := by simpa using e
              clear e
              generalize pcnt xs xs.length m = C at *
              go_wp2_with fail
              go_roundw
              case rel => exact ⟨m + 1, nd, by omega, by go_num, HT2.out, rfl⟩
              case measure => simp [intOf]; omega
          · obtain rfl : m = xs.length := by omega
            have HF : Hid (permF xs = 0) := by show _ = _; rw [HA.out, HT.out]; rfl
            go_wp2_with fail
            go_ret
            exact ⟨ret_int HF.out.symm, below_drewN HB.out _⟩
end Go.Proofs.Ytnmgambilpoeiaa
