/-
  Contracts: the reference's OrderOf, Digits, Number. No condition.
-/
import Derived.Test.YtdbfpdhcaiiiaaaDoorFieldLaw
import Derived.Test.YtdbfpdhcaiiiaaaDoorOwn
import Derived.Test.YtdbfpdhcaiiiaaaDoorPrimeX
import Derived.Test.YtdbfpdhcaiiiaaaDoorFPrime
namespace Go.Proofs.YtdbfpdhcaiiiaaaDoor
open Go.RowKit

/-- So many numbers that a function tells. -/
def nl (f : Nat → Nat) (n : Nat) : List Int := (List.range n).map fun j => ((f j : Nat) : Int)
theorem nl_len (f : Nat → Nat) (n : Nat) : (nl f n).length = n := by simp [nl]
theorem nl_ix (f : Nat → Nat) {n j : Nat} (h : j < n) : ix (nl f n) j = ((f j : Nat) : Int) := by simp [ix, nl, List.getD_eq_getElem?_getD, h]
theorem nl_snoc (f : Nat → Nat) (n : Nat) : nl f (n + 1) = nl f n ++ [((f n : Nat) : Int)] := by simp [nl, List.range_succ]
theorem nl_congr {f g : Nat → Nat} {n : Nat} (h : ∀ j, j < n → f j = g j) : nl f n = nl g n := by
  unfold nl
  exact List.map_congr_left fun j hj => by rw [h j (List.mem_range.1 hj)]
theorem nl_set (f : Nat → Nat) (n j x : Nat) : (nl f n).set j (x : Int) = nl (fun i => if i = j then x else f i) n := by
  apply List.ext_getElem
  · simp [nl]
  · intro i h1 h2
    simp only [nl_len] at h2
    rw [List.getElem_set]
    by_cases e : j = i
    · subst e; rw [if_pos rfl]; simp [nl]
    · rw [if_neg e]
      have e2 : ¬ i = j := fun h => e h.symm
      simp [nl, e2]

theorem pr_isPB {p : Int} (h : p ≤ 64) : prI p = isPB p := by
  by_cases h0 : p < 0
  · have e1 : p.toNat = 0 := by omega
    unfold prI
    rw [e1]
    have e2 : isPB p = false := by
      cases e : isPB p
      · rfl
      · have := isPB_range e; omega
    rw [e2]; rfl
  · obtain ⟨n, rfl⟩ := Int.eq_ofNat_of_zero_le (show 0 ≤ p by omega)
    have key : ((List.range 65).all fun n => prB n == isPB (n : Int)) = true := by decide +kernel
    have := List.all_eq_true.1 key n (List.mem_range.2 (by omega))
    simpa [prI] using this

set_option maxRecDepth 100000 in
set_option maxHeartbeats 2000000 in
theorem orderOf_any (p d : Int) (w : World) :
    Calls Tryd.prog 51 #[.int .i64 p, .int .i64 d] w fun e w' => e = .returned (.int .i64 (ordQ p d : Nat)) ∧ w = w' := by
  by_cases h1 : 64 < p
  · have H0 : Hid (ordQ p d = 0) := by
      show _ = _; unfold ordQ; rw [if_neg]; rintro ⟨h, _⟩; have := isPB_range h; omega
    have ed : decide (64 < p) = true := by simpa using h1
    clear h1
    go_enter Tryd.func51, Tryd.ntmps51
    go_wp2_with fail
    go_ret
    exact ⟨ret_int (by rw [H0.out]; rfl), rfl⟩
  · have ed : decide (64 < p) = false := by simpa using h1
    by_cases h2 : d < 1
    · have H0 := Lib.hid (ordQ_no (p := p) (d := d) (by omega))
      have ed2 : decide (d < 1) = true := by simpa using h2
      clear h1 h2
      go_enter Tryd.func51, Tryd.ntmps51
      go_wp2_with fail
      go_ret
      exact ⟨ret_int (by rw [H0.out]; rfl), rfl⟩
    · have ed2 : decide (d < 1) = false := by simpa using h2
      have HF := Lib.hid (primeX_any p w)
      rw [pr_isPB (show p ≤ 64 by omega)] at HF
      cases e1 : isPB p
      · have H0 := Lib.hid (ordQ_no (p := p) (d := d) (by rw [e1]; simp))
        rw [e1] at HF
        clear e1 h1 h2
        go_enter Tryd.func51, Tryd.ntmps51
        go_wp2_with (go_at_call 45; refine (HF.out).mono ?_; rintro e w' ⟨rfl, rfl⟩)
        go_ret
        exact ⟨ret_int (by rw [H0.out]; rfl), rfl⟩
      · have HPr := Lib.hid e1
        rw [e1] at HF
        clear e1
        obtain ⟨p, rfl⟩ := Int.eq_ofNat_of_zero_le (show 0 ≤ p by have := (isPB_range HPr.out).1; omega)
        obtain ⟨d, rfl⟩ := Int.eq_ofNat_of_zero_le (show 0 ≤ d by omega)
        have hp2 : 2 ≤ p := by have := (isPB_range HPr.out).1; omega
        have hp61 : p ≤ 61 := by have := (isPB_range HPr.out).2; omega
        have hd1 : 1 ≤ d := by omega
        clear h1 h2
        go_enter Tryd.func51, Tryd.ntmps51
        go_wp2_with (go_at_call 45; refine (HF.out).mono ?_; rintro e w' ⟨rfl, rfl⟩)
        clear ed ed2
        go_loop [6, 7] (fun s i => ∃ k q : Nat, k ≤ d ∧ k ≤ 6 ∧ i = .int .i64 k ∧ s = .int .i64 q ∧ q = p ^ k ∧ q ≤ 64) (fun _ i => 10 - (intOf i).toNat)
        case atStart => exact ⟨0, 1, by omega, by omega, rfl, rfl, by simp, by omega⟩
        case round =>
          obtain ⟨k, q, hk, hk6, rfl, rfl, hq, hq64⟩ := hrel
          have HQ := Lib.hid hq; clear hq
          have hm : q * p ≤ 64 * 61 := Nat.mul_le_mul hq64 hp61
          have hv := mul_val (q := q) (p := p) (by omega)
          have HN : Hid (q * p = p ^ (k + 1)) := by show _ = _; rw [Nat.pow_succ, HQ.out]
          obtain ⟨m, hm2⟩ : ∃ m, m = q * p := ⟨_, rfl⟩
          rw [← hm2] at hv hm HN
          clear hm2
          by_cases hlt : k < d
          · by_cases hb : 64 < m
            · have H0 := Lib.hid (ordQ_far (p := p) (d := d) (i := k + 1) (by omega) (by rw [← HN.out]; exact hb) (by omega))
              go_wp2_with fail
              go_ret
              exact ⟨ret_int (by rw [H0.out]; rfl), rfl⟩
            · have hk5 : k + 1 ≤ 6 := pow_up hp2 (by rw [← HN.out]; omega)
              go_wp2_with fail
              go_round
              case rel => exact ⟨k + 1, m, by omega, hk5, by go_num, by first | rfl | exact hv, HN.out, by omega⟩
              case measure => simp [intOf]; omega
          · obtain rfl : k = d := by omega
            have H0 := Lib.hid (ordQ_yes HPr.out hd1 hk6 (by rw [← HQ.out]; exact hq64))
            go_wp2_with fail
            go_ret
            exact ⟨ret_int (by rw [H0.out, HQ.out]), rfl⟩

set_option maxRecDepth 100000 in
set_option maxHeartbeats 2000000 in
theorem rdigits_any (n p m : Nat) (w : World) (hn : n ≤ 64) (hp : 2 ≤ p) (hp2 : p ≤ 64) (hm : m ≤ 100) :
    Calls Tryd.prog 52 #[.int .i64 n, .int .i64 p, .int .i64 m] w fun e w' => ∃ v, e = .returned v ∧ Own w' w.heap.size 3 v (nl (dF p n) m) ∧ Below w.heap.size w w' := by
  have hp0 : ¬ p = 0 := by omega
  go_enter Tryd.func52, Tryd.ntmps52
  go_wp2_with fail
  go_loopw [0, 7, 8] (fun s u i wr => ∃ k q : Nat, k ≤ m ∧ i = .int .i64 k ∧ s = .int .i64 q ∧ q = n / p ^ k ∧ Own wr w.heap.size 3 u (nl (dF p n) k) ∧ Below w.heap.size w wr) (fun _ _ i _ => m - (intOf i).toNat)
  case atStart => exact ⟨0, n, by omega, rfl, rfl, by simp, own_nil _ _ _, Below.refl _ _⟩
  case round =>
    obtain ⟨k, q, hk, rfl, rfl, hq, ho, hb⟩ := hrel
    obtain ⟨ua, ul, uc, rfl⟩ := ho.shape
    have HO := Lib.hid ho; have HB := Lib.hid hb
    have hq64 : q ≤ 64 := by rw [hq]; have := Nat.div_le_self n (p ^ k); omega
    by_cases hlt : k < m
    · have HL : Hid ((nl (dF p n) k).length < 1000000000) := by show _ < _; rw [nl_len]; omega
      obtain ⟨r, hr⟩ : ∃ r, r = q % p := ⟨_, rfl⟩
      have HR : Hid (r = dF p n k) := by show _ = _; rw [hr, hq]; rfl
      have HR1 : Hid (((q : Nat) : Int) % ((p : Nat) : Int) = (r : Int)) := by show _ = _; rw [hr]; exact (Int.natCast_emod _ _).symm
      obtain ⟨t, ht⟩ : ∃ t, t = q / p := ⟨_, rfl⟩
      have HT : Hid (t = n / p ^ (k + 1)) := by show _ = _; rw [ht, hq, Nat.pow_succ, Nat.div_div_eq_div_mul]
      have hw : Hid (wrap64 ((q : Int) / (p : Int)) = (t : Int)) := by
        show _ = _
        have : q / p ≤ q := Nat.div_le_self _ _
        rw [← Int.natCast_ediv, ← ht]
        exact IntWalk.wrap64_in _ (by omega)
      have hv := congrArg (Value.int .i64) hw.out
      clear ho hb hr ht hq
      go_wp2_with (at_builtin; refine app_own rfl _ _ rfl rfl (HO.out.alloc _) _ _ rfl (by rw [World.cell?_alloc_new]; rfl) HL.out (by rw [World.size_alloc]; exact Nat.le_succ_of_le HB.out.size) ?_; intro u2 w1 hown hgrow)
      have HO2 : Hid (Own w1 w.heap.size 3 u2 (nl (dF p n) (k + 1))) := by show Own _ _ _ _ _; rw [nl_snoc, ← HR.out, ← HR1.out]; exact hown
      have HB2 := Lib.hid (below_grown hgrow (B := w.heap.size) (fun q hq => (HO.out.block q hq).1) (by rw [World.size_alloc]; exact Nat.le_succ_of_le HB.out.size))
      have HB3 := Lib.hid (((HB.out.alloc HB.out.size _)).trans HB2.out)
      obtain ⟨xa, xl, xc, rfl⟩ := hown.shape
      clear hown hgrow
      go_wp2_with fail
      go_roundw
      case rel => exact ⟨k + 1, t, by omega, by go_num, by first | exact hv | rfl, HT.out, HO2.out, HB3.out⟩
      case measure => simp [intOf]; omega
    · obtain rfl : k = m := by omega
      go_wp2_with fail
      go_ret
      exact ⟨_, rfl, HO.out, HB.out⟩

set_option maxRecDepth 100000 in
set_option maxHeartbeats 2000000 in
theorem rnumber_any (p d : Nat) (v : Value) (f : Nat → Nat) (w : World) (hI : IntsAt w v (nl f d)) (hp : 2 ≤ p) (hp2 : p ≤ 64) (hd1 : 1 ≤ d) (hd : d ≤ 6) (hq : p ^ d ≤ 64) (hf : ∀ j, j < d → f j < p) :
    Calls Tryd.prog 55 #[v, .int .i64 p] w fun e w' => e = .returned (.int .i64 (numF p d f : Nat)) ∧ w = w' := by
  obtain ⟨a, c, rfl, h1, h2, _, h3⟩ := id hI
  have HX := Lib.hid h3
  have HS : Hid (∀ s, s ≤ d → numS p d f s ≤ 64) := fun s hs => by
    have h1 := numS_lt hf s hs
    have h2 : p ^ s ≤ p ^ d := Nat.pow_le_pow_right (by omega) hs
    omega
  have HFl := Lib.hid hf
  have hl := nl_len f d
  rw [hl] at h1
  rw [hl]
  rw [hl] at HX
  have hd1' : IntKind.i64.wrap ((d : Int) - 1) = (d : Int) - 1 := IntWalk.i64_in _ (by omega)
  clear h3 hf hq hl hI
  go_enter Tryd.func55, Tryd.ntmps55
  go_wp2_with fail
  clear hd1'
  go_loop [5, 6] (fun s i => ∃ t n : Nat, t ≤ d ∧ i = .int .i64 ((d : Int) - 1 - (t : Int)) ∧ s = .int .i64 n ∧ n = numS p d f t) (fun _ i => (intOf i + 1).toNat)
  case atStart => exact ⟨0, 0, by omega, by simp, rfl, rfl⟩
  case round =>
    obtain ⟨t, n, ht, rfl, rfl, hn⟩ := hrel
    have HN := Lib.hid hn
    have hn64 := HS.out t ht
    rw [← hn] at hn64
    clear hn
    by_cases hlt : t < d
    · obtain ⟨j, hj⟩ : ∃ j, j = d - 1 - t := ⟨_, rfl⟩
      have hjd : j < d := by omega
      have hjj : (d : Int) - 1 - (t : Int) = (j : Int) := by omega
      obtain ⟨b, o, rfl, hb, hc⟩ := HX.out j hjd
      have c1 := hc j hjd
      rw [nl_ix f hjd] at c1
      have hfj := HFl.out j hjd
      clear hc
      have hnp : n * p ≤ 64 * 64 := Nat.mul_le_mul hn64 hp2
      have hv1 := mul_val (q := n) (p := p) (by omega)
      have HN2 : Hid (n * p + f j = numS p d f (t + 1)) := by show _ = _; rw [numS, ← HN.out, hj]
      have HJ : Hid ((j : Int) - 1 = (d : Int) - 1 - ((t + 1 : Nat) : Int)) := by show _ = _; omega
      have hbd := HS.out (t + 1) (by omega)
      rw [← HN2.out] at hbd
      clear hj
      rw [hjj]
      clear hjj
      have HW : Hid (wrap64 ((n : Int) * (p : Int)) = ((n * p : Nat) : Int)) := by injection hv1
      obtain ⟨m, hm⟩ : ∃ m, m = n * p := ⟨_, rfl⟩
      rw [← hm] at hv1 HN2 hbd hnp HW
      clear hm
      have hji : (j : Int) < (d : Int) := by omega
      generalize f j = x at *
      go_wp2_with fail
      go_round
      case rel => exact ⟨t + 1, m + x, by omega, congrArg (Value.int .i64) HJ.out, by first | rfl | go_num | (rw [HW.out]; go_num), HN2.out⟩
      case measure => first | (simp [intOf]; done) | (simp [intOf]; omega)
    · obtain rfl : t = d := by omega
      have hjj : (t : Int) - 1 - (t : Int) = -1 := by omega
      rw [hjj]
      clear hjj
      go_wp2_with fail
      go_ret
      exact ⟨ret_int (by rw [HN.out]; rfl), rfl⟩
end Go.Proofs.YtdbfpdhcaiiiaaaDoor
