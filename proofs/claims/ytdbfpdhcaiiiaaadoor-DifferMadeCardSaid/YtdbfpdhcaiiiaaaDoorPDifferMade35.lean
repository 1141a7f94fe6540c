/-
  Contracts: the closure of latin.Made, latin.filled at it. No condition but that the table of primes reads as it is laid.
-/
import Derived.Test.YtdbfpdhcaiiiaaaDoorPDifferMade30
import Derived.Test.YtdbfpdhcaiiiaaaDoorPDifferMade31
import Derived.Test.YtdbfpdhcaiiiaaaDoorPDifferMade14
import Derived.Test.YtdbfpdhcaiiiaaaDoorPDifferMade33
import Derived.Test.YtdbfpdhcaiiiaaaDoorPDifferMade34
namespace Go.Proofs.YtdbfpdhcaiiiaaaDoor
open Go.RowKit

theorem with_fine {P D : Nat} {low es : List Int} (hF : IsField P D low) (h : ∀ x ∈ es, 0 ≤ x ∧ x < ((P ^ D : Nat) : Int)) : withFault P D low es = 0 := by
  unfold withFault
  rw [if_neg (by have := fault_of hF; simp [this])]
  rw [if_neg]
  intro hc
  obtain ⟨x, hx, ho⟩ := List.any_eq_true.1 hc
  have := h x hx
  unfold outQ at ho
  rw [hF.q, decide_eq_true_eq] at ho
  omega
theorem mulM_ltq {p d : Nat} {low : List Int} (hF : IsField p d low) (a b : Nat) : mulM p d low a b < p ^ d := mulV_lt (by have := hF.p2; omega)
theorem addV_ltq {p d : Nat} {low : List Int} (hF : IsField p d low) (a b : Nat) : addV p d a b < p ^ d := addV_lt (by have := hF.p2; omega)
/-- The cell of a square that a field makes. -/
def madC (p d : Nat) (low : List Int) (a i j : Nat) : Nat := addV p d (mulM p d low a i) j
/-- Its first m cells. -/
def madTo (n : Nat) (c : Nat → Nat → Nat) (m : Nat) : List Int := (List.range m).map fun k => ((c (k / n) (k % n) : Nat) : Int)
theorem madTo_len (n : Nat) (c : Nat → Nat → Nat) (m : Nat) : (madTo n c m).length = m := by simp [madTo]
theorem madTo_succ {n : Nat} (c : Nat → Nat → Nat) {i k : Nat} (hk : k < n) : madTo n c (i * n + k + 1) = madTo n c (i * n + k) ++ [((c i k : Nat) : Int)] := by
  unfold madTo
  rw [List.range_succ, List.map_append]
  have h1 := place_div (n := n) (i := i) hk
  have h2 := place_mod (n := n) (i := i) hk
  unfold dv at h1; unfold md at h2
  simp only [List.map_cons, List.map_nil, h1, h2]

set_option maxRecDepth 100000 in
set_option maxHeartbeats 2000000 in
theorem made1_any (P D a i j bf ba : Nat) (v : Value) (low : List Int) (w : World) (hI : IntsAt w v low) (hF : IsField P D low) (hP : PrimesAt w) (ha : a < P ^ D) (hi : i < P ^ D) (hj : j < P ^ D)
    (k0 : w.cell? ⟨bf, 0, none⟩ = some (.int .i64 P)) (k1 : w.cell? ⟨bf, 1, none⟩ = some (.int .i64 D)) (k2 : w.cell? ⟨bf, 2, none⟩ = some v) (k3 : w.cell? ⟨ba, 0, none⟩ = some (.int .i64 a)) (hbf : bf < w.heap.size) :
    Calls Tryd.prog 29 #[.int .i64 i, .int .i64 j, .pointer (some ⟨bf, 0, none⟩), .pointer (some ⟨ba, 0, none⟩)] w fun e w' => e = .returned (.int .i64 (madC P D low a i j : Nat)) ∧ Below w.heap.size w w' := by
  obtain ⟨sa, sc, rfl, _⟩ := id hI
  have w0 := with_fine (es := [(a : Int), (i : Int)]) hF (fun x hx => by
    simp only [List.mem_cons, List.not_mem_nil, or_false] at hx
    rcases hx with rfl | rfl <;> omega)
  have hm := mulM_ltq hF a i
  have w1 := with_fine (es := [((mulM P D low a i : Nat) : Int), (j : Int)]) hF (fun x hx => by
    simp only [List.mem_cons, List.not_mem_nil, or_false] at hx
    rcases hx with rfl | rfl <;> omega)
  have m1 := fmul_any P D a i _ low w hI hP
  unfold OpPost at m1
  rw [w0] at m1
  have HM := Lib.hid m1
  have HA : Hid (∀ W, Below w.heap.size w W → Calls Tryd.prog 30 #[.agg #[.int .i64 (P : Int), .int .i64 (D : Int), .slice sa low.length sc], .int .i64 (mulM P D low a i : Nat), .int .i64 (j : Int)] W fun e w' => e = .returned (.tuple #[.int .i64 (madC P D low a i j : Nat), .int .i64 0]) ∧ Below W.heap.size W w') := fun W hW => by
    have := fadd_any P D (mulM P D low a i : Nat) j _ low W (hI.below hW) (hP.below hW)
    unfold OpPost at this
    rw [w1, if_pos rfl, Int.toNat_natCast, Int.toNat_natCast, Int.toNat_natCast, Int.toNat_natCast] at this
    exact this
  rw [if_pos rfl, Int.toNat_natCast, Int.toNat_natCast, Int.toNat_natCast, Int.toNat_natCast] at HM
  clear hI hF hP w0 w1 m1 hm
  generalize mulM P D low a i = M at *
  generalize madC P D low a i j = R at *
  go_enter Tryd.func29, Tryd.ntmps29
  go_wp2_with fail
  refine HM.out.mono ?_
  rintro e w1 ⟨rfl, hb1⟩
  have HB1 := Lib.hid hb1
  have l0 := (hb1.cell (p := ⟨bf, 0, none⟩) hbf).trans k0
  have l1 := (hb1.cell (p := ⟨bf, 1, none⟩) hbf).trans k1
  have l2 := (hb1.cell (p := ⟨bf, 2, none⟩) hbf).trans k2
  clear k0 k1 k2 k3 hb1
  go_wp2_with fail
  refine (HA.out _ HB1.out).mono ?_
  rintro e w2 ⟨rfl, hb2⟩
  have HB2 := Lib.hid (belowTrans HB1.out hb2)
  clear hb2
  go_wp2_with fail
  go_ret
  exact ⟨rfl, HB2.out⟩

/-- What filled holds. -/
structure MadRel (w wr : World) (n : Nat) (u : Value) (xs : List Int) : Prop where
  bel : Below w.heap.size w wr
  hz : w.heap.size + 2 ≤ wr.heap.size
  res : Arr wr w.heap.size 2 (fun j => if j = 0 then .int .i64 0 else .slice none 0 0)
  out : Arr wr (w.heap.size + 1) 2 (fun j => if j = 0 then .int .i64 (n : Int) else u)
  own : Own wr (w.heap.size + 2) 3 u xs
theorem MadRel.next {w wr W : World} {n : Nat} {u : Value} {xs : List Int} (h : MadRel w wr n u xs) (hb : Below wr.heap.size wr W) : MadRel w W n u xs :=
  ⟨belowTrans h.bel hb, Nat.le_trans h.hz hb.size, h.res.below hb, h.out.below hb, h.own.below hb⟩
theorem mad_start (w : World) (n : Nat) : MadRel w ((w.alloc (.cells #[.int .i64 0, .slice none 0 0] 26)).alloc (.cells #[.int .i64 (n : Int), .slice none 0 0] 26)) n (.slice none 0 0) [] := by
  have h2 := arr_sq (w.alloc (.cells #[.int .i64 0, .slice none 0 0] 26)) (.int .i64 (n : Int)) (.slice none 0 0) 26
  rw [World.size_alloc] at h2
  exact ⟨belowTrans (below_box _ _) (below_box _ _), by simp, Arr.alloc (arr_sq w _ _ _) _, h2, own_nil _ _ _⟩
theorem MadRel.push {w w1 w2 : World} {n : Nat} {u u' : Value} {xs : List Int} {y : Int} (h : MadRel w w1 n u xs) (ho : Own w2 (w.heap.size + 2) 3 u' (xs ++ [y])) (hg : w1.grownBy w2 u.ownBlock) :
    MadRel w (w2.setCell ⟨w.heap.size + 1, 1, none⟩ u') n u' (xs ++ [y]) := by
  have hb := h.own.block
  have hsz := hg.size
  have hz := h.hz
  have hB : Below w.heap.size w w2 := h.bel.grown hg (by omega) (fun k hk => by have := (hb k hk).1; omega)
  have kp : ∀ {b : Nat} {f : Nat → Value}, b < w.heap.size + 2 → Arr w1 b 2 f → Arr w2 b 2 f := fun hlt hA =>
    Arr.kept hA (fun o => (far_cell hg (base := w.heap.size + 2) (fun k hk => (hb k hk).1) hlt (by omega)).1) (fun o => (far_cell hg (base := w.heap.size + 2) (fun k hk => (hb k hk).1) hlt (by omega)).2) hsz
  refine ⟨hB.setCell (Nat.le_succ _) _, by rw [World.size_setCell]; omega, (kp (by omega) h.res).setOther (by simp) _, ?_, ho.setFar (by simp) _⟩
  refine ((kp (by omega) h.out).set (show 1 < 2 by omega) u').congr fun j hj => ?_
  rcases j with _ | _ | j
  · rfl
  · rfl
  · omega
theorem MadRel.spot {w w1 w2 : World} {n : Nat} {u : Value} {xs : List Int} (h : MadRel w w1 n u xs) (hg : w1.grownBy w2 u.ownBlock) :
    w2.cell? ⟨w.heap.size + 1, 1, none⟩ = some u ∧ w2.frozen? ⟨w.heap.size + 1, 1, none⟩ = false := by
  have hb := h.own.block
  have hz := h.hz
  have f := far_cell hg (base := w.heap.size + 2) (b := w.heap.size + 1) (o := 1) (fun k hk => (hb k hk).1) (by omega) (by omega)
  exact ⟨f.1.trans (h.out.cell (show 1 < 2 by omega)), f.2.trans (h.out.free (show 1 < 2 by omega))⟩

set_option maxRecDepth 100000 in
set_option maxHeartbeats 4000000 in
theorem filled_made (n bf ba : Nat) (c : Nat → Nat → Nat) (w : World) (hn : 1 ≤ n) (hn8 : n ≤ 8)
    (hC : ∀ (i j : Nat) (W : World), i < n → j < n → Below w.heap.size w W → Calls Tryd.prog 29 #[.int .i64 i, .int .i64 j, .pointer (some ⟨bf, 0, none⟩), .pointer (some ⟨ba, 0, none⟩)] W fun e w' => e = .returned (.int .i64 (c i j : Nat)) ∧ Below W.heap.size W w') :
    Calls Tryd.prog 26 #[.int .i64 n, .func (.func 29) #[] #[.pointer (some ⟨bf, 0, none⟩), .pointer (some ⟨ba, 0, none⟩)]] w fun e w' =>
      ∃ v, e = .returned (.agg #[.int .i64 n, v]) ∧ Own w' (w.heap.size + 2) 3 v (madTo n c (n * n)) ∧ Below w.heap.size w w' := by
  have HC := Lib.hid hC
  have HS := Lib.hid (mad_start w n)
  clear hC
  go_enter Tryd.func26, Tryd.ntmps26
  go_wp2_with fail
  go_loopw [6, 7, 11, 15] (fun _ _ s _ wr => ∃ (i : Nat) (u : Value), i ≤ n ∧ s = .int .i64 i ∧ MadRel w wr n u (madTo n c (i * n))) (fun _ _ s _ _ => n - (intOf s).toNat)
  case atStart => exact ⟨0, _, by omega, rfl, by rw [Nat.zero_mul]; exact HS.out⟩
  case round =>
    clear HS
    obtain ⟨i, u, hi, rfl, hR⟩ := hrel
    have HR := Lib.hid hR; clear hR
    by_cases hlt : i < n
    · go_wp2_with fail
      go_loopw [7, 15] (fun _ s wr => ∃ (k : Nat) (u : Value), k ≤ n ∧ s = .int .i64 k ∧ MadRel w wr n u (madTo n c (i * n + k))) (fun _ s _ => n - (intOf s).toNat)
      case atStart => exact ⟨0, _, by omega, rfl, HR.out⟩
      case round =>
        clear HR
        obtain ⟨k, u, hk, rfl, hR⟩ := hrel
        obtain ⟨ua, ul, uc, rfl⟩ := hR.own.shape
        have HR := Lib.hid hR
        have o1 := hR.out.cell (show 1 < 2 by omega); have o2 := hR.out.free (show 1 < 2 by omega)
        have hsz := hR.hz
        clear hR
        by_cases hkl : k < n
        · have HRD : Hid (∀ m, MadRel w (wr.drewN m) n (.slice ua ul uc) (madTo n c (i * n + k))) := fun m => HR.out.next (below_D _ _)
          have hin : i * n + k < 64 := by
            have := place_lt hlt hkl
            have : n * n ≤ 8 * 8 := Nat.mul_le_mul hn8 hn8
            omega
          have HSu := Lib.hid (madTo_succ c (i := i) hkl)
          have HLn := Lib.hid (madTo_len n c (i * n + k))
          have HBm : Hid (∀ m, Below w.heap.size w (wr.drewN m)) := fun m => (HRD.out m).bel
          clear o2
          go_wp2_with fail
          go_region_law (first
            | (refine step_ints (by rfl) _ _ (by rfl) (by rfl) (HR2.out.own.below (below_box _ _)) w2.heap.size (by rfl) (World.cell?_alloc_new w2 _ _ 0) (by rw [HLn.out]; omega) (by simp; omega) ?_; intro v' w3 hown1 hgrow; obtain ⟨va, vl, vc, rfl⟩ := hown1.shape; have HR3 := Lib.hid ((HR2.out.next (below_box _ _)).push hown1 hgrow); obtain ⟨y1, y2⟩ := (HR2.out.next (below_box _ _)).spot hgrow; clear hown1 hgrow)
            | (go_simp; refine (HC.out i k _ hlt hkl (by first | exact HR.out.bel | exact HBm.out 1 | exact HBm.out 2 | exact HBm.out 3 | exact HBm.out 4 | exact HBm.out 5 | fail)).mono ?_; rintro e w2 ⟨rfl, hb⟩; have HR2 : Hid (MadRel w w2 n (.slice ua ul uc) (madTo n c (i * n + k))) := (by first | exact HR.out.next hb | exact (HRD.out 1).next hb | exact (HRD.out 2).next hb | exact (HRD.out 3).next hb | exact (HRD.out 4).next hb | exact (HRD.out 5).next hb | fail); have o1' := HR2.out.out.cell (show 1 < 2 by omega); have hsz2 := HR2.out.hz; have hne2 : ¬ w.heap.size + 1 = w2.heap.size := (by omega); have o3' := (World.cell?_alloc_old w2 (.cells #[.int .i64 (c i k : Nat)] 3) ⟨w.heap.size + 1, 1, none⟩ hne2).trans o1'; clear hb))
          all_goals
            rw [← HSu.out] at HR3
            go_wp2_with fail
            go_roundw
            case rel => exact ⟨k + 1, _, by omega, by go_num, HR3.out⟩
            case measure => simp [intOf]; omega
        · obtain rfl : k = n := by omega
          have HN : Hid (MadRel w wr k (.slice ua ul uc) (madTo k c ((i + 1) * k))) := by rw [Nat.add_mul, Nat.one_mul]; exact HR.out
          go_wp2_with fail
          go_roundw
          case rel => exact ⟨i + 1, _, by omega, by go_num, HN.out⟩
          case measure => simp [intOf]; omega
    · obtain rfl : i = n := by omega
      obtain ⟨va, vl, vc, rfl⟩ := HR.out.own.shape
      have o0 := HR.out.out.cell (show 0 < 2 by omega); have o1 := HR.out.out.cell (show 1 < 2 by omega)
      have a0 := HR.out.res.cell (show 0 < 2 by omega); have a1 := HR.out.res.cell (show 1 < 2 by omega)
      have b0 := HR.out.res.free (show 0 < 2 by omega); have b1 := HR.out.res.free (show 1 < 2 by omega)
      go_wp2_with fail
      refine bodyPost_ret (results_arr1 (p := 4) rfl ((HR.out.res.set (show 0 < 2 by omega) (.int .i64 i)).set (show 1 < 2 by omega) (.slice va vl vc)) Tryd.underlying26 rfl (by kernel_rfl) rfl) rfl ⟨.slice va vl vc, rfl, ?_, (HR.out.bel.setCell (Nat.le_refl _) _).setCell (Nat.le_refl _) _⟩
      exact (HR.out.own.setFar (by simp) _).setFar (by simp) _
end Go.Proofs.YtdbfpdhcaiiiaaaDoor
