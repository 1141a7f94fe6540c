/-
  Contract: the walk of the reference's count of transversals. No condition.
-/
import Derived.Test.YtkmfhnjadpdkeaaTransLaw
import Derived.Test.YtkmfhnjadpdkeaaRank
namespace Go.Proofs.Ytkmfhnjadpdkeaa
open Go.RowKit

/-- What stands behind i rows of one order. -/
def TvRel (n : Nat) (xs p : List Int) (w1 wr : World) (i : Nat) : Prop :=
  i ≤ n ∧ Flags wr w1.heap.size n (markT n xs p i) ∧ Below w1.heap.size w1 wr
theorem okN_of {n : Nat} {xs p : List Int} {i : Nat} (hi : i ≤ n) (h : i = n ∨ okT n xs p i = false) : okT n xs p i = okT n xs p n := by
  rcases h with rfl | h
  · rfl
  · rw [h, okT_false hi h]

set_option maxHeartbeats 2000000 in
theorem transOf_any (n : Nat) (v : Value) (xs : List Int) (w : World) (h : IntsAt w v xs) (hL : IsLatin n xs) :
    Calls Try.prog 24 #[.agg #[.int .i64 n, v]] w fun e w' => e = .returned (.int .i64 (transM n xs n 0 0 0)) ∧ Below w.heap.size w w' := by
  obtain ⟨b0, hb0, hbz, hbs, hbb⟩ := info_parts info_bool
  have HL := Lib.hid hL
  have hn8 : n ≤ 8 := by have := hL.hi; omega
  have hn1 : 1 ≤ n := by have := hL.lo; omega
  have HLen := Lib.hid hL.lenN
  have hfn := fct_le (n := n) (by omega)
  have Hall := Lib.hid (trans_all hL)
  obtain ⟨a, c, rfl, h1, h2, _, h3⟩ := h
  have H3 : Hid (∀ i j, i < n → j < n → ∃ b o, a = some ⟨b, o, none⟩ ∧ b < w.heap.size ∧ ∀ i j, i < n → j < n → w.cell? ⟨b, o + (i * n + j), none⟩ = some (.int .i64 (qat n xs i j))) := fun i j hi hj => by
    obtain ⟨b, o, e, hb, hc⟩ := h3 (i * n + j) (by rw [HLen.out]; exact place_lt hi hj)
    exact ⟨b, o, e, hb, fun i j hi hj => hc (i * n + j) (by rw [HLen.out]; exact place_lt hi hj)⟩
  clear hL h3
  go_enter Try.func24, Try.ntmps24
  go_wp2_with fail
  refine (fact_any n _ (by omega)).mono ?_
  rintro e w1 ⟨rfl, rfl⟩
  go_wp2_with fail
  go_loopw [5, 6] (fun sm sk wr => ∃ k : Nat, k ≤ fct n ∧ sk = .int .i64 k ∧ sm = .int .i64 (sumTo (fun k => okN n xs (permOf n k)) k) ∧ Below (w.alloc (.cells #[.int .i64 n, .slice a xs.length c] 24)).heap.size (w.alloc (.cells #[.int .i64 n, .slice a xs.length c] 24)) wr) (fun _ sk _ => fct n - (intOf sk).toNat)
  case atStart => exact ⟨0, by omega, rfl, rfl, Below.refl _ _⟩
  case round =>
    obtain ⟨k, hk, rfl, rfl, hb⟩ := hrel
    have HB := Lib.hid hb; clear hb
    have hsum : sumTo (fun k => okN n xs (permOf n k)) k ≤ k * 1 := sumTo_le k (fun i _ => by unfold okN; split <;> omega)
    rw [Nat.mul_one] at hsum
    obtain ⟨x1, x2, x3⟩ := box1 HB.out
    by_cases hkl : k < fct n
    · have Hmk := Lib.hid (permOf_mem hkl)
      have Hpl := Lib.hid (permOf_len n k)
      have Hsum : Hid (sumTo (fun k => okN n xs (permOf n k)) (k + 1) = sumTo (fun k => okN n xs (permOf n k)) k + okN n xs (permOf n k)) := rfl
      go_wp2_with fail
      refine (rank_any n k _ hn1 (by omega) hkl).mono ?_
      rintro e w1 ⟨pv, rfl, hown, hb1⟩
      have Hown := Lib.hid (hown.intsAt (by rw [Hpl.out]; omega)); clear hown
      generalize sumTo (fun k => okN n xs (permOf n k)) k = s0 at *
      generalize permOf n k = P at *
      have HB1 := Lib.hid (belowTrans HB.out hb1); clear hb1
      go_wp2_with (at_make; go_must (refine wpList_make_full _ rfl _ _ _ rfl w1.heap.size 4 b0 _ 1 Try.underlying68 hb0 hbz hbs _ _ _ _ n rfl rfl rfl rfl (by rw [hbb]; omega) (by unfold maxLen; omega) (Nat.le_refl _) ?_; intro w2 hown2 hgrow2))
      have hB2 := below_grown (v := .slice none 0 0) hgrow2 (B := w1.heap.size) (by intro k hk; cases hk) (Nat.le_refl _)
      have hF2 := flags_of_made hown2
      have HT0 : Hid (TvRel n xs P w1 w2 0) := ⟨by omega, hF2.congr fun j _ => rfl, hB2⟩
      clear hB2 hF2 hown2 hgrow2
      obtain ⟨pa, pc, rfl, p1, p2, _, p3⟩ := Hown.out
      have P3 := Lib.hid p3; clear p3
      go_loopw [10, 11] (fun so si wr' => ∃ i : Nat, si = .int .i64 i ∧ so = .bool (okT n xs P i) ∧ TvRel n xs P w1 wr' i) (fun _ si _ => n - (intOf si).toNat)
      case atStart => exact ⟨0, rfl, rfl, HT0.out⟩
      case round =>
        obtain ⟨i, rfl, rfl, hi, hf, hb⟩ := hrel
        have HF := Lib.hid hf; have HBr := Lib.hid hb; clear hf hb HT0
        obtain ⟨y1, y2, y3⟩ := box1 (belowTrans HB1.out HBr.out)
        have Hok : Hid (okT n xs P (i + 1) = (okT n xs P i && !markT n xs P i (symAt n xs P i))) := rfl
        have Hmark : Hid (∀ j, markT n xs P (i + 1) j = (markT n xs P i j || symAt n xs P i == j)) := fun _ => rfl
        by_cases hil : i < n
        · cases e : okT n xs P i
          · have Hdone : Hid (sumTo (fun k => okN n xs (permOf n k)) (k + 1) = s0) := by
              show _ = _
              rw [Hsum.out, okN, ← okN_of hi (.inr e), e]; rfl
            have Hb := Lib.hid (belowTrans HB1.out HBr.out)
            go_wp2_with fail
            go_roundw
            case rel => exact ⟨k + 1, by omega, by go_num, by rw [Hdone.out], Hb.out⟩
            case measure => simp [intOf]; omega
          · obtain ⟨b, o, rfl, hpb, hpc⟩ := P3.out i (by rw [Hpl.out]; exact hil)
            obtain ⟨hc1, hc2⟩ := Hmk.out (ix P i) (ix_mem (by rw [Hpl.out]; exact hil))
            obtain ⟨ci, hci⟩ : ∃ ci : Nat, ix P i = ci := ⟨(ix P i).toNat, by omega⟩
            have hcn : ci < n := by omega
            obtain ⟨rb, ro, rfl, hrb, hrc⟩ := H3.out i ci hil hcn
            have hq := HL.out.cell hil hcn
            obtain ⟨d, hd⟩ : ∃ d : Nat, qat n xs i ci = d := ⟨(qat n xs i ci).toNat, by omega⟩
            have hdn : d < n := by omega
            have hsym : symAt n xs P i = d := by unfold symAt; rw [hci, Int.toNat_natCast, hd, Int.toNat_natCast]
            have z1 : wr.cell? ⟨b, o + i, none⟩ = some (.int .i64 ci) := by rw [(bcell HBr.out).1 _ _ hpb, hpc i (by rw [Hpl.out]; exact hil), hci]
            have z2 : wr.cell? ⟨rb, ro + (i * n + ci), none⟩ = some (.int .i64 d) := by
              rw [(bcell (belowTrans (below_box w _) (belowTrans HB1.out HBr.out))).1 _ _ hrb, hrc i ci hil hcn, hd]
            have z3 : wr.cell? ⟨w1.heap.size, d, none⟩ = some (.bool (markT n xs P i d)) := Arr.cell HF.out hdn
            have z4 : wr.frozen? ⟨w1.heap.size, d, none⟩ = false := Arr.free HF.out hdn
            have p1' : i * n + ci < xs.length := by rw [HLen.out]; exact place_lt hil hcn
            have m1 := int_val (wrap_mul8 (i := i) (n := n) (by omega) (by omega))
            have q1 : i * n ≤ 64 := Nat.mul_le_mul (show i ≤ 8 by omega) (show n ≤ 8 by omega)
            have HR : Hid (∀ q, TvRel n xs P w1 ((wr.drewN q).setCell ⟨w1.heap.size, d, none⟩ (.bool true)) (i + 1)) := by
              intro q
              refine ⟨by omega, (Flags.set (Arr.drewN HF.out q) hdn).congr fun j _ => by rw [Hmark.out, hsym], (below_drewN HBr.out q).setCell (Nat.le_refl _) _⟩
            have HO2 : Hid (okT n xs P (i + 1) = !markT n xs P i d) := by
              show _ = _
              rw [Hok.out, e, hsym]; rfl
            have ib : i < P.length := by rw [Hpl.out]; exact hil
            clear hci hq hd hsym hrc hpc hc1 hc2
            generalize i * n = qi at *
            go_wp2_with fail
            go_quiet (fail)
            go_wp2_with fail
            go_roundw
            case rel => exact ⟨i + 1, by go_num, by rw [HO2.out], HR.out _⟩
            case measure => simp [intOf]; omega
        · obtain rfl : i = n := by omega
          have Hb := Lib.hid (belowTrans HB1.out HBr.out)
          cases e : okT i xs P i
          · have Hdone : Hid (sumTo (fun k => okN i xs (permOf i k)) (k + 1) = s0) := by
              show _ = _
              rw [Hsum.out, okN, e]; rfl
            go_wp2_with fail
            go_roundw
            case rel => exact ⟨k + 1, by omega, by go_num, by rw [Hdone.out], Hb.out⟩
            case measure => simp [intOf]; omega
          · have Hdone : Hid (sumTo (fun k => okN i xs (permOf i k)) (k + 1) = s0 + 1) := by
              show _ = _
              rw [Hsum.out, okN, e]; rfl
            go_wp2_with fail
            go_roundw
            case rel => exact ⟨k + 1, by omega, by go_num, by rw [Hdone.out]; go_num, Hb.out⟩
            case measure => simp [intOf]; omega
    · obtain rfl : k = fct n := by omega
      have Hb := Lib.hid (belowTrans (below_box w _) HB.out)
      rw [Hall.out] at *
      go_wp2_with fail
      go_ret
      exact ⟨rfl, Hb.out⟩

end Go.Proofs.Ytkmfhnjadpdkeaa
