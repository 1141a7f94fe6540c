/-
  Contract: ruler.Costases. No condition.
-/
import Derived.Test.YtnmgambilpoeiaaRankSum
import Derived.Test.YtnmgambilpoeiaaStepOwn
import Derived.Test.YtnmgambilpoeiaaCosLaw
import Derived.Laws.EntriesVeiled
namespace Go.Proofs.Ytnmgambilpoeiaa
open Go.RowKit

theorem ix_app {xs ys : List Int} {i : Nat} (h : i < xs.length) : ix (xs ++ ys) i = ix xs i := by
  unfold ix; rw [List.getD_eq_getElem?_getD, List.getD_eq_getElem?_getD, List.getElem?_append_left h]
theorem cosB_pre (a t : List Int) (h : cosB (a ++ t) = true) : cosB a = true := by
  rw [cosB_iff] at h ⊢
  intro j m k q h1 h2 h3 h4 h5 h6
  exact h j m k q h1 h2 h3 (by rw [List.length_append]; omega) h5 (by rw [ix_app (by omega), ix_app (by omega), ix_app (by omega), ix_app (by omega)]; exact h6)
def cosF (n l : Nat) (out : List Int) (x : Nat) : Nat := if mem out (x : Int) then 0 else cntR n cosB l (out ++ [(x : Int)])
theorem cosF_le (n l : Nat) (hn : n ≤ 7) (hl : l ≤ 7) (out : List Int) (x : Nat) : cosF n l out x ≤ 823543 := by
  unfold cosF
  split
  · exact Nat.zero_le _
  · have h1 := cntR_le n cosB l (out ++ [(x : Int)])
    have h2 : n ^ l ≤ 7 ^ l := Nat.pow_le_pow_left hn l
    have h3 : 7 ^ l ≤ 7 ^ 7 := Nat.pow_le_pow_right (by omega) hl
    have h4 : 7 ^ 7 = 823543 := by decide
    omega
def CntPost (z : Nat) (w : World) : Ending → World → Prop := fun e w' => e = .returned (.int .i64 (z : Nat)) ∧ Below w.heap.size w w'

set_option maxRecDepth 100000 in
set_option maxHeartbeats 4000000 in
theorem costas1_any (n : Nat) (hn : n ≤ 7) (bn bc : Nat) : ∀ (l : Nat) (v : Value) (xs : List Int) (w : World), xs.length + l = n → IntsAt w v xs → (0 < xs.length ∨ v = .slice none 0 0) →
    (∀ k, k < xs.length → 0 ≤ ix xs k ∧ ix xs k ≤ 1000000000) → bn < w.heap.size → bc < w.heap.size →
    w.cell? ⟨bn, 0, none⟩ = some (.int .i64 n) →
    w.cell? ⟨bc, 0, none⟩ = some (.func (.func 35) #[] #[.pointer (some ⟨bn, 0, none⟩), .pointer (some ⟨bc, 0, none⟩)]) →
    Calls Try.prog 35 #[v, .pointer (some ⟨bn, 0, none⟩), .pointer (some ⟨bc, 0, none⟩)] w (CntPost (cntR n cosB l xs) w) := by
  intro l
  induction l with
  | zero =>
    intro v xs w hl hI hv hu hbn hbc hcn hcc
    have HI := Lib.hid hI
    have HC := Lib.hid (costas_any v xs w hI hu (by omega))
    obtain ⟨a, c, rfl, _⟩ := hI
    have HR : Hid (cntR n cosB 0 xs = oneB (cosB xs)) := rfl
    have hln : xs.length = n := by omega
    have hne : (((xs.length : Nat) : Int) == (n : Int)) = true := by rw [hln]; simp
    clear hl hv hcc hln
    cases e : cosB xs
    · rw [e] at HC HR
      go_enter Try.func35, Try.ntmps35
      go_wp2_with fail
      refine (HC.out).mono ?_
      rintro e w1 ⟨rfl, hb⟩
      have HB := Lib.hid hb; clear hb
      go_wp2_with fail
      go_ret
      exact ⟨by rw [HR.out]; rfl, HB.out⟩
    · rw [e] at HC HR
      go_enter Try.func35, Try.ntmps35
      go_wp2_with fail
      refine (HC.out).mono ?_
      rintro e w1 ⟨rfl, hb⟩
      have HB := Lib.hid hb
      have hc1 := hcn
      rw [← (bcell hb).1 _ _ hbn] at hc1
      clear hb
      go_wp2_with fail
      go_ret
      exact ⟨by rw [HR.out]; rfl, HB.out⟩
  | succ l ih =>
    intro v xs w hl hI hv hu hbn hbc hcn hcc
    have IH := Lib.hid ih; clear ih
    have HI := Lib.hid hI
    have HC := Lib.hid (costas_any v xs w hI hu (by omega))
    obtain ⟨a, c, rfl, _⟩ := hI
    have hne : (((xs.length : Nat) : Int) == (n : Int)) = false := by simp; omega
    have HU := Lib.hid hu
    have HV := Lib.hid hv
    clear hv hu
    cases e : cosB xs
    · have HR : Hid (cntR n cosB (l + 1) xs = 0) := by show _ = _; rw [cntR, e]; rfl
      rw [e] at HC
      go_enter Try.func35, Try.ntmps35
      go_wp2_with fail
      refine (HC.out).mono ?_
      rintro e w1 ⟨rfl, hb⟩
      have HB := Lib.hid hb; clear hb
      go_wp2_with fail
      go_ret
      exact ⟨by rw [HR.out]; rfl, HB.out⟩
    · have HR : Hid (cntR n cosB (l + 1) xs = sumR (cosF n l xs) n) := by show _ = _; rw [cntR, e]; rfl
      rw [e] at HC
      go_enter Try.func35, Try.ntmps35
      go_wp2_with fail
      refine (HC.out).mono ?_
      rintro e w1 ⟨rfl, hb⟩
      have HB := Lib.hid hb
      have hc1 := hcn
      rw [← (bcell hb).1 _ _ hbn] at hc1
      clear hb
      go_wp2_with fail
      go_loopw [5, 15] (fun ss sk wr => ∃ k : Nat, k ≤ n ∧ sk = .int .i64 k ∧ ss = .int .i64 (sumR (cosF n l xs) k : Nat) ∧ Below w.heap.size w wr) (fun _ sk _ => n - (intOf sk).toNat)
      case atStart => exact ⟨0, by omega, rfl, rfl, HB.out⟩
      case round =>
        clear HB hc1
        obtain ⟨k, hk, rfl, rfl, hb⟩ := hrel
        have HB := Lib.hid hb
        have hwz := hb.size
        have hc2 := hcc
        rw [← (bcell hb).1 _ _ hbc] at hc2
        clear hb
        have HF : Hid (sumR (cosF n l xs) (k + 1) = sumR (cosF n l xs) k + cosF n l xs k) := rfl
        have hS : sumR (cosF n l xs) k ≤ k * 823543 := sumR_le k (fun i _ => cosF_le n l hn (by omega) xs i)
        have hS2 : sumR (cosF n l xs) k ≤ 5764801 := by omega
        have hT2 := cosF_le n l hn (by omega) xs k
        clear hS
        by_cases hlt : k < n
        · have HIr := Lib.hid (HI.out.below HB.out)
          have HCt := Lib.hid (contains_any (k : Int) _ _ wr HIr.out)
          cases em : mem xs (k : Int)
          · have Hm := Lib.hid em
            rw [em] at HCt
            have HT : Hid (cosF n l xs k = cntR n cosB l (xs ++ [(k : Int)])) := by show _ = _; unfold cosF; rw [em]; rfl
            clear em
            go_wp2_with fail
            refine (HCt.out).mono ?_
            rintro e w' ⟨rfl, rfl⟩
            go_wp2_with fail
            rw [HT.out] at hT2 HF
            have HCl : Hid (∀ W, IntsAt W (.slice a xs.length c) xs → Calls Try.prog 36 #[.slice a xs.length c] W (ClonePost xs W)) := fun W hW => clone_both _ xs W hW HV.out (by omega)
            have HRec : Hid (∀ v' W, Own W w.heap.size 3 v' (xs ++ [(k : Int)]) → Below w.heap.size w W → Calls Try.prog 35 #[v', .pointer (some ⟨bn, 0, none⟩), .pointer (some ⟨bc, 0, none⟩)] W (CntPost (cntR n cosB l (xs ++ [(k : Int)])) W)) := fun v' W hO hB => by
              have hz := hB.size
              refine IH.out v' _ W (by simp; omega) (hO.intsAt (by simp; omega)) (.inl (by simp)) ?_ (by omega) (by omega) (by rw [(bcell hB).1 _ _ hbn]; exact hcn) (by rw [(bcell hB).1 _ _ hbc]; exact hcc)
              intro q hq
              rw [List.length_append, List.length_singleton] at hq
              by_cases e : q = xs.length
              · subst e
                have : ix (xs ++ [(k : Int)]) xs.length = k := by unfold ix; simp
                rw [this]; omega
              · rw [ix_app (by omega)]; exact HU.out q (by omega)
            have HIb := Lib.hid (HIr.out.below (below_box wr (.cells #[.int .i64 k] 3)))
            generalize cntR n cosB l (xs ++ [(k : Int)]) = t0 at *
            generalize sumR (cosF n l xs) k = s0 at *
            have hw1 : IntKind.i64.wrap ((s0 : Int) + (t0 : Int)) = ((s0 + t0 : Nat) : Int) := by rw [Int.natCast_add]; exact IntWalk.i64_in _ (by omega)
            have HL9 : Hid (xs.length < 1000000000) := by show _ < _; omega
            clear hS2 hT2
            have HBd := Lib.hid HB.out.drew
            have HBb := Lib.hid (belowTrans HB.out.drew (below_box wr.drew (.cells #[.int .i64 k] 3)))
            have HXb : Hid ((wr.alloc (.cells #[.int .i64 k] 3)).cell? ⟨wr.heap.size, 0, none⟩ = some (.int .i64 k)) := World.cell?_alloc_new wr #[.int .i64 k] 3 0
            have HCC : Hid (∀ W, Below w.heap.size w W → W.cell? ⟨bc, 0, none⟩ = some (.func (.func 35) #[] #[.pointer (some ⟨bn, 0, none⟩), .pointer (some ⟨bc, 0, none⟩)])) := fun W hW => by rw [(bcell hW).1 _ _ hbc]; exact hcc
            have HLb := Lib.hid (lt_box wr (.cells #[.int .i64 k] 3))
            go_region_held3 (fun w' => w'.cell? ⟨bc, 0, none⟩ = some (.func (.func 35) #[] #[.pointer (some ⟨bn, 0, none⟩), .pointer (some ⟨bc, 0, none⟩)])) (first | exact HCC.out w4 HB4.out | exact HCC.out w3 HB3.out | exact HCC.out w2 HB2.out | exact HCC.out (w2.alloc (.cells #[.int .i64 k] 3)) (HB2.out.alloc HB2.out.size _) | exact HCC.out (wr.alloc (.cells #[.int .i64 k] 3)) (HB.out.alloc HB.out.size _) | exact HCC.out wr HB.out | fail)
              (first
                | (go_at_call 36; refine (HCl.out _ (by first | exact HIr.out | exact HIb.out | fail)).mono ?_; rintro e w2 ⟨cv, rfl, hown, hb⟩
                   have HB2 : Hid (Below w.heap.size w w2) := (by first | exact belowTrans HBd.out hb | exact belowTrans HBb.out hb | fail)
                   have HO2 : Hid (Own w2 w.heap.size 3 cv xs) := (by first | exact hown.base HBd.out.size | exact hown.base HBb.out.size | fail)
                   first | (have HX2 := Lib.hid (keep_cell hb HLb.out HXb.out)) | (have HX2 : Hid True := trivial)
                   obtain ⟨ca, cl, cc, rfl⟩ := hown.shape
                   clear hown hb)
                | (refine step_ints (by rfl) _ _ (by rfl) (by rfl) (HO2.out.alloc _) w2.heap.size (by rfl) (World.cell?_alloc_new w2 _ _ 0) HL9.out (le_box HB2.out.size _) ?_
                   intro v' w3 hown3 hgrow3
                   have HO3 := Lib.hid hown3
                   have HB3 := Lib.hid ((HB2.out.alloc HB2.out.size _).grown hgrow3 (le_box HB2.out.size _) (fun q hq => (HO2.out.block q hq).1))
                   obtain ⟨ca3, cl3, cc3, rfl⟩ := hown3.shape
                   clear hown3 hgrow3)
                | (refine step_ints (by rfl) _ _ (by rfl) (by rfl) HO2.out wr.heap.size (by rfl) HX2.out HL9.out HB2.out.size ?_
                   intro v' w3 hown3 hgrow3
                   have HO3 := Lib.hid hown3
                   have HB3 := Lib.hid (HB2.out.grown hgrow3 HB2.out.size (fun q hq => (HO2.out.block q hq).1))
                   obtain ⟨ca3, cl3, cc3, rfl⟩ := hown3.shape
                   clear hown3 hgrow3)
                | (go_at_call 35; refine (HRec.out _ _ HO3.out HB3.out).mono ?_; rintro e w4 ⟨rfl, hb⟩
                   have HB4 := Lib.hid (belowTrans HB3.out hb)
                   clear hb)
                | fail)
            all_goals
              clear hw1
              go_wp2_with fail
              go_roundw
              case rel => exact ⟨k + 1, by omega, by go_num, by rw [HF.out]; first | rfl | rw [Int.natCast_add], HB4.out⟩
              case measure => simp [intOf]; omega
          · rw [em] at HCt
            have HT : Hid (cosF n l xs k = 0) := by show _ = _; unfold cosF; rw [em]; rfl
            clear em
            go_wp2_with fail
            refine (HCt.out).mono ?_
            rintro e w' ⟨rfl, rfl⟩
            go_wp2_with fail
            go_roundw
            case rel => exact ⟨k + 1, by omega, by go_num, by rw [HF.out, HT.out]; rfl, HB.out⟩
            case measure => simp [intOf]; omega
        · obtain rfl : k = n := by omega
          go_wp2_with fail
          go_ret
          exact ⟨by rw [HR.out]; rfl, HB.out⟩

/-- What is told of a number of points. -/
def costN (n : Int) : Nat := if 1 ≤ n ∧ n ≤ 7 then cntR n.toNat cosB n.toNat [] else 0
def costE (n : Int) : Int := if 1 ≤ n ∧ n ≤ 7 then 0 else 1
def CosNPost (n : Int) (w : World) : Ending → World → Prop := fun e w' => e = .returned (.tuple #[.int .i64 (costN n : Nat), .int .i64 (costE n)]) ∧ Below w.heap.size w w'

set_option maxRecDepth 100000 in
set_option maxHeartbeats 2000000 in
theorem costases_any (n : Int) (w : World) : Calls Try.prog 19 #[.int .i64 n] w (CosNPost n w) := by
  by_cases h : 1 ≤ n ∧ n ≤ 7
  · have HP : Hid (∀ e w', (e = .returned (.tuple #[.int .i64 (cntR n.toNat cosB n.toNat [] : Nat), .int .i64 0]) ∧ Below w.heap.size w w') → CosNPost n w e w') := by
      intro e w' h2
      unfold CosNPost costN costE
      rw [if_pos h, if_pos h]; exact h2
    obtain ⟨m, rfl⟩ := Int.eq_ofNat_of_zero_le (show 0 ≤ n by omega)
    rw [Int.toNat_natCast] at HP
    have hm7 : m ≤ 7 := by omega
    have d1 : decide ((m : Int) < 1) = false := by simp; omega
    have d2 : decide ((7 : Int) < (m : Int)) = false := by simp; omega
    have d3 : decide (7 < m) = false := by simp; omega
    clear h
    go_enter Try.func19, Try.ntmps19
    go_wp2_with fail
    refine (costas1_any m hm7 w.heap.size (w.heap.size + 1) m _ [] _ (by simp) (intsAt_nil _) (.inr rfl) (fun k hk => by simp at hk) ?_ ?_ ?_ ?_).mono ?_
    · simp; omega
    · simp
    · rw [World.cell?_alloc_old _ _ _ (by simp), World.cell?_alloc_new]; rfl
    · have := World.cell?_alloc_new (w.alloc (.cells #[.int .i64 m] 3)) #[.func (.func 35) #[] #[.pointer (some ⟨w.heap.size, 0, none⟩), .pointer (some ⟨w.heap.size + 1, 0, none⟩)]] 55 0
      rw [World.size_alloc] at this
      exact this
    · rintro e w2 ⟨rfl, hb⟩
      have HB : Hid (Below w.heap.size w w2) := (((below_box w _).trans ((below_box _ _).mono (by simp))).trans (hb.mono (by simp; omega)))
      clear hb
      generalize cntR m cosB m [] = z at *
      go_wp2_with fail
      go_ret2
      exact HP.out _ _ ⟨rfl, HB.out⟩
  · have HP : Hid (∀ e w', (e = .returned (.tuple #[.int .i64 0, .int .i64 1]) ∧ Below w.heap.size w w') → CosNPost n w e w') := by
      intro e w' h2
      unfold CosNPost costN costE
      rw [if_neg h, if_neg h]; exact h2
    by_cases h1 : n < 1
    · have d1 : decide (n < 1) = true := by simpa using h1
      clear h h1
      go_enter Try.func19, Try.ntmps19
      go_wp2_with fail
      go_ret2
      exact HP.out _ _ ⟨rfl, below_box _ _⟩
    · have d1 : decide (n < 1) = false := by simpa using h1
      have d2 : decide (7 < n) = true := by simp; omega
      clear h h1
      go_enter Try.func19, Try.ntmps19
      go_wp2_with fail
      go_ret2
      exact HP.out _ _ ⟨rfl, below_box _ _⟩
end Go.Proofs.Ytnmgambilpoeiaa
