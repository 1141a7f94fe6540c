/-
  Contracts: the reference's OrderOf, Digits, Number. No condition.
  A store into a slice of the call's own. No condition.
  Contract: slices.Clone over ints, of a slice that holds some; append of a whole slice to an empty one. No condition.
-/
import Derived.Test.YtdbfpdhcaiiiaaaDoorPDifferMade11
import Derived.Test.YtdbfpdhcaiiiaaaDoorPDifferMade3
import Derived.Test.YtdbfpdhcaiiiaaaDoorPDifferMade10
import Derived.Test.YtdbfpdhcaiiiaaaDoorPDifferMade13
import Derived.Test.YtdbfpdhcaiiiaaaDoorPDifferMade4
namespace Go.Proofs.YtdbfpdhcaiiiaaaDoor
open Go.RowKit

/-- So many numbers that a function tells. -/
def nl (f : Nat → Nat) (n : Nat) : List Int := (List.range n).map fun j => ((f j : Nat) : Int)
theorem nl_len (f : Nat → Nat) (n : Nat) : (nl f n).length = n := by simp [nl]
theorem nl_ix (f : Nat → Nat) {n j : Nat} (h : j < n) : ix (nl f n) j = ((f j : Nat) : Int) := by simp [ix, nl, List.getD_eq_getElem?_getD, h]
theorem nl_snoc (f : Nat → Nat) (n : Nat) : nl f (n + 1) = nl f n ++ [((f n : Nat) : Int)] := by simp [nl, List.range_succ]
theorem nl_congr {f g : Nat → Nat} {n : Nat} (h : ∀ j, j < n → f j = g j) : nl f n = nl g n := by
  unfold nl
  exact List.map_congr_left fun j hj => by rw [h j (List.mem_range.1 hj)]
theorem nl_set (f : Nat → Nat) (n j x : Nat) : (nl f n).set j (x : Int) = nl (fun i => if i = j then x else f i) n := by
  apply List.ext_getElem
  · simp [nl]
  · intro i h1 h2
    simp only [nl_len] at h2
    rw [List.getElem_set]
    by_cases e : j = i
    · subst e; rw [if_pos rfl]; simp [nl]
    · rw [if_neg e]
      have e2 : ¬ i = j := fun h => e h.symm
      simp [nl, e2]

theorem pr_isPB {p : Int} (h : p ≤ 64) : prI p = isPB p := by
  by_cases h0 : p < 0
  · have e1 : p.toNat = 0 := by omega
    unfold prI
    rw [e1]
    have e2 : isPB p = false := by
      cases e : isPB p
      · rfl
      · have := isPB_range e; omega
    rw [e2]; rfl
  · obtain ⟨n, rfl⟩ := Int.eq_ofNat_of_zero_le (show 0 ≤ p by omega)
    have key : ((List.range 65).all fun n => prB n == isPB (n : Int)) = true := by decide +kernel
    have := List.all_eq_true.1 key n (List.mem_range.2 (by omega))
    simpa [prI] using this

set_option maxRecDepth 100000 in
set_option maxHeartbeats 2000000 in
theorem orderOf_any (p d : Int) (w : World) :
    Calls Tryd.prog 51 #[.int .i64 p, .int .i64 d] w fun e w' => e = .returned (.int .i64 (ordQ p d : Nat)) ∧ w = w' := by
  by_cases h1 : 64 < p
  · have H0 : Hid (ordQ p d = 0) := by
      show _ = _; unfold ordQ; rw [if_neg]; rintro ⟨h, _⟩; have := isPB_range h; omega
    have ed : decide (64 < p) = true := by simpa using h1
    clear h1
    go_enter Tryd.func51, Tryd.ntmps51
    go_wp2_with fail
    go_ret
    exact ⟨ret_int (by rw [H0.out]; rfl), rfl⟩
  · have ed : decide (64 < p) = false := by simpa using h1
    by_cases h2 : d < 1
    · have H0 := Lib.hid (ordQ_no (p := p) (d := d) (by omega))
      have ed2 : decide (d < 1) = true := by simpa using h2
      clear h1 h2
      go_enter Tryd.func51, Tryd.ntmps51
      go_wp2_with fail
      go_ret
      exact ⟨ret_int (by rw [H0.out]; rfl), rfl⟩
    · have ed2 : decide (d < 1) = false := by simpa using h2
      have HF := Lib.hid (primeX_any p w)
      rw [pr_isPB (show p ≤ 64 by omega)] at HF
      cases e1 : isPB p
      · have H0 := Lib.hid (ordQ_no (p := p) (d := d) (by rw [e1]; simp))
        rw [e1] at HF
        clear e1 h1 h2
        go_enter Tryd.func51, Tryd.ntmps51
        go_wp2_with (go_at_call 45; refine (HF.out).mono ?_; rintro e w' ⟨rfl, rfl⟩)
        go_ret
        exact ⟨ret_int (by rw [H0.out]; rfl), rfl⟩
      · have HPr := Lib.hid e1
        rw [e1] at HF
        clear e1
        obtain ⟨p, rfl⟩ := Int.eq_ofNat_of_zero_le (show 0 ≤ p by have := (isPB_range HPr.out).1; omega)
        obtain ⟨d, rfl⟩ := Int.eq_ofNat_of_zero_le (show 0 ≤ d by omega)
        have hp2 : 2 ≤ p := by have := (isPB_range HPr.out).1; omega
        have hp61 : p ≤ 61 := by have := (isPB_range HPr.out).2; omega
        have hd1 : 1 ≤ d := by omega
        clear h1 h2
        go_enter Tryd.func51, Tryd.ntmps51
        go_wp2_with (go_at_call 45; refine (HF.out).mono ?_; rintro e w' ⟨rfl, rfl⟩)
        clear ed ed2
        go_loop [6, 7] (fun s i => ∃ k q : Nat, k ≤ d ∧ k ≤ 6 ∧ i = .int .i64 k ∧ s = .int .i64 q ∧ q = p ^ k ∧ q ≤ 64) (fun _ i => 10 - (intOf i).toNat)
        case atStart => exact ⟨0, 1, by omega, by omega, rfl, rfl, by simp, by omega⟩
        case round =>
          obtain ⟨k, q, hk, hk6, rfl, rfl, hq, hq64⟩ := hrel
          have HQ := Lib.hid hq; clear hq
          have hm : q * p ≤ 64 * 61 := Nat.mul_le_mul hq64 hp61
          have hv := mul_val (q := q) (p := p) (by omega)
          have HN : Hid (q * p = p ^ (k + 1)) := by show _ = _; rw [Nat.pow_succ, HQ.out]
          obtain ⟨m, hm2⟩ : ∃ m, m = q * p := ⟨_, rfl⟩
          rw [← hm2] at hv hm HN
          clear hm2
          by_cases hlt : k < d
          · by_cases hb : 64 < m
            · have H0 := Lib.hid (ordQ_far (p := p) (d := d) (i := k + 1) (by omega) (by rw [← HN.out]; exact hb) (by omega))
              go_wp2_with fail
              go_ret
              exact ⟨ret_int (by rw [H0.out]; rfl), rfl⟩
            · have hk5 : k + 1 ≤ 6 := pow_up hp2 (by rw [← HN.out]; omega)
              go_wp2_with fail
              go_round
              case rel => exact ⟨k + 1, m, by omega, hk5, by go_num, by first | rfl | exact hv, HN.out, by omega⟩
              case measure => simp [intOf]; omega
          · obtain rfl : k = d := by omega
            have H0 := Lib.hid (ordQ_yes HPr.out hd1 hk6 (by rw [← HQ.out]; exact hq64))
            go_wp2_with fail
            go_ret
            exact ⟨ret_int (by rw [H0.out, HQ.out]), rfl⟩

set_option maxRecDepth 100000 in
set_option maxHeartbeats 2000000 in
theorem rdigits_any (n p m : Nat) (w : World) (hn : n ≤ 64) (hp : 2 ≤ p) (hp2 : p ≤ 64) (hm : m ≤ 100) :
    Calls Tryd.prog 52 #[.int .i64 n, .int .i64 p, .int .i64 m] w fun e w' => ∃ v, e = .returned v ∧ Own w' w.heap.size 3 v (nl (dF p n) m) ∧ Below w.heap.size w w' := by
  have hp0 : ¬ p = 0 := by omega
  go_enter Tryd.func52, Tryd.ntmps52
  go_wp2_with fail
  go_loopw [0, 7, 8] (fun s u i wr => ∃ k q : Nat, k ≤ m ∧ i = .int .i64 k ∧ s = .int .i64 q ∧ q = n / p ^ k ∧ Own wr w.heap.size 3 u (nl (dF p n) k) ∧ Below w.heap.size w wr) (fun _ _ i _ => m - (intOf i).toNat)
  case atStart => exact ⟨0, n, by omega, rfl, rfl, by simp, own_nil _ _ _, Below.refl _ _⟩
  case round =>
    obtain ⟨k, q, hk, rfl, rfl, hq, ho, hb⟩ := hrel
    obtain ⟨ua, ul, uc, rfl⟩ := ho.shape
    have HO := Lib.hid ho; have HB := Lib.hid hb
    have hq64 : q ≤ 64 := by rw [hq]; have := Nat.div_le_self n (p ^ k); omega
    by_cases hlt : k < m
    · have HL : Hid ((nl (dF p n) k).length < 1000000000) := by show _ < _; rw [nl_len]; omega
      obtain ⟨r, hr⟩ : ∃ r, r = q % p := ⟨_, rfl⟩
      have HR : Hid (r = dF p n k) := by show _ = _; rw [hr, hq]; rfl
      have HR1 : Hid (((q : Nat) : Int) % ((p : Nat) : Int) = (r : Int)) := by show _ = _; rw [hr]; exact (Int.natCast_emod _ _).symm
      obtain ⟨t, ht⟩ : ∃ t, t = q / p := ⟨_, rfl⟩
      have HT : Hid (t = n / p ^ (k + 1)) := by show _ = _; rw [ht, hq, Nat.pow_succ, Nat.div_div_eq_div_mul]
      have hw : Hid (wrap64 ((q : Int) / (p : Int)) = (t : Int)) := by
        show _ = _
        have : q / p ≤ q := Nat.div_le_self _ _
        rw [← Int.natCast_ediv, ← ht]
        exact IntWalk.wrap64_in _ (by omega)
      have hv := congrArg (Value.int .i64) hw.out
      clear ho hb hr ht hq
      go_wp2_with (at_builtin; refine app_own rfl _ _ rfl rfl (HO.out.alloc _) _ _ rfl (by rw [World.cell?_alloc_new]; rfl) HL.out (by rw [World.size_alloc]; exact Nat.le_succ_of_le HB.out.size) ?_; intro u2 w1 hown hgrow)
      have HO2 : Hid (Own w1 w.heap.size 3 u2 (nl (dF p n) (k + 1))) := by show Own _ _ _ _ _; rw [nl_snoc, ← HR.out, ← HR1.out]; exact hown
      have HB2 := Lib.hid (below_grown hgrow (B := w.heap.size) (fun q hq => (HO.out.block q hq).1) (by rw [World.size_alloc]; exact Nat.le_succ_of_le HB.out.size))
      have HB3 := Lib.hid (((HB.out.alloc HB.out.size _)).trans HB2.out)
      obtain ⟨xa, xl, xc, rfl⟩ := hown.shape
      clear hown hgrow
      go_wp2_with fail
      go_roundw
      case rel => exact ⟨k + 1, t, by omega, by go_num, by first | exact hv | rfl, HT.out, HO2.out, HB3.out⟩
      case measure => simp [intOf]; omega
    · obtain rfl : k = m := by omega
      go_wp2_with fail
      go_ret
      exact ⟨_, rfl, HO.out, HB.out⟩

set_option maxRecDepth 100000 in
set_option maxHeartbeats 2000000 in
theorem rnumber_any (p d : Nat) (v : Value) (f : Nat → Nat) (w : World) (hI : IntsAt w v (nl f d)) (hp : 2 ≤ p) (hp2 : p ≤ 64) (hd1 : 1 ≤ d) (hd : d ≤ 6) (hq : p ^ d ≤ 64) (hf : ∀ j, j < d → f j < p) :
    Calls Tryd.prog 55 #[v, .int .i64 p] w fun e w' => e = .returned (.int .i64 (numF p d f : Nat)) ∧ w = w' := by
  obtain ⟨a, c, rfl, h1, h2, _, h3⟩ := id hI
  have HX := Lib.hid h3
  have HS : Hid (∀ s, s ≤ d → numS p d f s ≤ 64) := fun s hs => by
    have h1 := numS_lt hf s hs
    have h2 : p ^ s ≤ p ^ d := Nat.pow_le_pow_right (by omega) hs
    omega
  have HFl := Lib.hid hf
  have hl := nl_len f d
  rw [hl] at h1
  rw [hl]
  rw [hl] at HX
  have hd1' : IntKind.i64.wrap ((d : Int) - 1) = (d : Int) - 1 := IntWalk.i64_in _ (by omega)
  clear h3 hf hq hl hI
  go_enter Tryd.func55, Tryd.ntmps55
  go_wp2_with fail
  clear hd1'
  go_loop [5, 6] (fun s i => ∃ t n : Nat, t ≤ d ∧ i = .int .i64 ((d : Int) - 1 - (t : Int)) ∧ s = .int .i64 n ∧ n = numS p d f t) (fun _ i => (intOf i + 1).toNat)
  case atStart => exact ⟨0, 0, by omega, by simp, rfl, rfl⟩
  case round =>
    obtain ⟨t, n, ht, rfl, rfl, hn⟩ := hrel
    have HN := Lib.hid hn
    have hn64 := HS.out t ht
    rw [← hn] at hn64
    clear hn
    by_cases hlt : t < d
    · obtain ⟨j, hj⟩ : ∃ j, j = d - 1 - t := ⟨_, rfl⟩
      have hjd : j < d := by omega
      have hjj : (d : Int) - 1 - (t : Int) = (j : Int) := by omega
      obtain ⟨b, o, rfl, hb, hc⟩ := HX.out j hjd
      have c1 := hc j hjd
      rw [nl_ix f hjd] at c1
      have hfj := HFl.out j hjd
      clear hc
      have hnp : n * p ≤ 64 * 64 := Nat.mul_le_mul hn64 hp2
      have hv1 := mul_val (q := n) (p := p) (by omega)
      have HN2 : Hid (n * p + f j = numS p d f (t + 1)) := by show _ = _; rw [numS, ← HN.out, hj]
      have HJ : Hid ((j : Int) - 1 = (d : Int) - 1 - ((t + 1 : Nat) : Int)) := by show _ = _; omega
      have hbd := HS.out (t + 1) (by omega)
      rw [← HN2.out] at hbd
      clear hj
      rw [hjj]
      clear hjj
      have HW : Hid (wrap64 ((n : Int) * (p : Int)) = ((n * p : Nat) : Int)) := by injection hv1
      obtain ⟨m, hm⟩ : ∃ m, m = n * p := ⟨_, rfl⟩
      rw [← hm] at hv1 HN2 hbd hnp HW
      clear hm
      have hji : (j : Int) < (d : Int) := by omega
      generalize f j = x at *
      go_wp2_with fail
      go_round
      case rel => exact ⟨t + 1, m + x, by omega, congrArg (Value.int .i64) HJ.out, by first | rfl | go_num | (rw [HW.out]; go_num), HN2.out⟩
      case measure => first | (simp [intOf]; done) | (simp [intOf]; omega)
    · obtain rfl : t = d := by omega
      have hjj : (t : Int) - 1 - (t : Int) = -1 := by omega
      rw [hjj]
      clear hjj
      go_wp2_with fail
      go_ret
      exact ⟨ret_int (by rw [HN.out]; rfl), rfl⟩
end Go.Proofs.YtdbfpdhcaiiiaaaDoor

namespace Go.Proofs.YtdbfpdhcaiiiaaaDoor
open Go.RowKit

theorem Own.cellAt {w : World} {base : Nat} {t : TypeId} {g n c : Nat} {xs : List Int} (h : Own w base t (.slice (some ⟨g, 0, none⟩) n c) xs) {j : Nat} (hj : j < xs.length) :
    w.cell? ⟨g, j, none⟩ = some (.int .i64 (ix xs j)) ∧ w.frozen? ⟨g, j, none⟩ = false ∧ base ≤ g := by
  rcases h.2 with ⟨e, _⟩ | ⟨g', cap, cur, e, hg, hh, hc, hm, hs, ht⟩
  · cases e
  · injection e with e1 e2 e3
    injection e1 with e1; injection e1 with e1 _ _; subst e1
    refine ⟨?_, by simp [World.frozen?, hh], hg⟩
    rw [cell_of_row w g j cur t (0, 0) hh]
    have e : (cur.toList.take (xs.length * 1))[j]? = (cellsOf xs)[j]? := by rw [ht]
    rw [List.getElem?_take_of_lt (by omega)] at e
    rw [← Array.getElem?_toList, e]
    simp [cellsOf, ix, hj]
theorem Own.put {w : World} {base : Nat} {t : TypeId} {g n c : Nat} {xs : List Int} (h : Own w base t (.slice (some ⟨g, 0, none⟩) n c) xs) {j : Nat} (_hj : j < xs.length) (x : Int) :
    Own (w.setCell ⟨g, j, none⟩ (.int .i64 x)) base t (.slice (some ⟨g, 0, none⟩) n c) (xs.set j x) := by
  unfold Own at h ⊢
  rw [List.length_set]
  refine ⟨by simp [cellsOf], ?_⟩
  rcases h.2 with ⟨e, _⟩ | ⟨g', cap, cur, e, hg, hh, hc, hm, hs, ht⟩
  · cases e
  · injection e with e1 e2 e3
    injection e1 with e1; injection e1 with e1 _ _; subst e1; subst e3
    refine .inr ⟨g, c, cur.setIfInBounds j (.int .i64 x), by rw [e2], hg, ?_, hc, hm, by simp [hs], ?_⟩
    · obtain ⟨hlt, hk⟩ := Array.getElem?_eq_some_iff.1 hh
      show (w.heap.modify g _)[g]? = _
      rw [Array.getElem?_eq_getElem (by rw [Array.size_modify]; exact hlt), Array.getElem_modify_self, hk]
      rfl
    · rw [Nat.mul_one] at ht ⊢
      rw [Array.toList_setIfInBounds, List.take_set, ht]
      simp [cellsOf]
theorem Own.below {w w' : World} {base : Nat} {t : TypeId} {v : Value} {xs : List Int} (h : Own w base t v xs) (hb : Below w.heap.size w w') : Own w' base t v xs :=
  World.ownsRow.kept h (row := none) ⟨hb.os, hb.tape, hb.output, hb.size, fun j hj _ => hb.block j hj⟩ (by cases hv : v.ownBlock <;> simp)
end Go.Proofs.YtdbfpdhcaiiiaaaDoor

namespace Go.Proofs.YtdbfpdhcaiiiaaaDoor
open Go.RowKit

/-- append of a slice that holds some to an empty one without capacity. -/
theorem app_whole {ops : Array Oper} {rest : List Oper} {o : Oper} {a : Act} {w : World} {Q : Exit → Act → World → Prop} (hgd : o.guard = none) (s x : Operand)
    (ho : o.op = .call { callee := .builtin .append, args := #[s, x], argTypes := #[22, 22] }) {b : Addr} (hs : a.eval s = .slice (some b) 0 0)
    {q : Option Addr} {c : Nat} {ys : List Int} (hI : IntsAt w (.slice q ys.length c) ys) (hx : a.eval x = .slice q ys.length c) (hy : 0 < ys.length) (hl : ys.length < 1000000000)
    (h : ∀ v' w', Own w' w.heap.size 3 v' ys → w.grownBy w' none → wpList Tryd.prog ops Q rest (a.put o.dst v') w') : wpList Tryd.prog ops Q (o :: rest) a w := by
  obtain ⟨i0, hi0, hz0, hz1, hz2⟩ := info_parts info_int
  obtain ⟨a', c', e, h2, h3, h4, h5⟩ := hI
  injection e with e1 e2 e3
  subst e1; subst e3
  obtain ⟨p, off, rfl, hbb, hc⟩ := h5 0 hy
  refine wpList_append_grows w hgd s x 22 ho 3 i0 _ 1 8 Tryd.underlying22 hi0 hz0 hz1 hz2 rfl (by omega) (some b) 0 0 [] hs
    (fun hn => by cases hn) rfl (fun p _ j u hu => by simp at hu) ⟨p, off, none⟩ ys.length c (cellsOf ys) hx (by rw [cellsOf_len]; omega) (fun j u hu => ?_) (fun u hu => ?_) (by omega) (by unfold maxLen; omega) (by omega) ?_
  · have hj : j < ys.length := by
      obtain ⟨q, _⟩ := List.getElem?_eq_some_iff.1 hu
      rw [cellsOf_len] at q; exact q
    rw [Addr.add_lit, hc j hj]
    unfold cellsOf at hu
    rw [List.getElem?_map, List.getElem?_eq_getElem hj] at hu
    rw [ix_lt hj]; exact hu
  · unfold cellsOf at hu
    obtain ⟨y, _, rfl⟩ := List.mem_map.1 hu
    rfl
  · intro v' w' h1 h2
    refine h v' w' ?_ h2
    unfold Own
    rw [Nat.zero_add, List.nil_append] at h1
    exact h1
theorem IntsAt.some {w : World} {a : Option Addr} {n c : Nat} {xs : List Int} (h : IntsAt w (.slice a n c) xs) (hp : 0 < xs.length) : ∃ b o, a = some ⟨b, o, none⟩ := by
  obtain ⟨a', c', e, _, _, _, h5⟩ := h
  obtain ⟨b, o, e2, _⟩ := h5 0 hp
  injection e with e1 _ _
  exact ⟨b, o, e1.trans e2⟩

end Go.Proofs.YtdbfpdhcaiiiaaaDoor
