/-
  Contract: the reference's DifferOf, of a set. No condition.
-/
import Derived.BigRegion
import Derived.ChangeAlike
import Derived.StillTailTactics
import Derived.Test.YtnmgambilpoeiaaDLevel
import Derived.Test.YtnmgambilpoeiaaOwn
namespace Go.Proofs.Ytnmgambilpoeiaa
open Go.RowKit

theorem nums_of_made {w : World} {base g n : Nat} {t : TypeId} (h : w.ownsRow base t 1 (.slice (some ⟨g, 0, none⟩) n n) n (madeCells #[Value.int .i64 0] (n * 1)).toList) : Nums w g n (fun _ => 0) := by
  rcases h.2 with ⟨e, _⟩ | ⟨g', cap, cur, e, hg, hh, hc, hm, hs, ht⟩
  · cases e
  · injection e with e1 e2 e3
    injection e1 with e1
    injection e1 with e1 _ _
    subst e1
    refine ⟨(Array.getElem?_eq_some_iff.1 hh).1, fun j hj => ⟨?_, by simp [World.frozen?, hh]⟩⟩
    rw [cell_of_row w g j cur t (0, 0) hh]
    have e4 : (cur.toList.take (n * 1))[j]? = ((madeCells #[Value.int .i64 0] (n * 1)).toList)[j]? := by rw [ht]
    rw [List.getElem?_take_of_lt (by omega), madeCells_one] at e4
    rw [← Array.getElem?_toList, e4]
    simp [hj]
structure DoRel (n : Nat) (xs : List Int) (w : World) (i j : Nat) (wr : World) : Prop where
  nums : Nums wr w.heap.size n (fun q => ((dto n xs i q + drow n xs i j q : Nat) : Int))
  bel : Below w.heap.size w wr

set_option maxRecDepth 100000 in
set_option maxHeartbeats 4000000 in
theorem differOf_any (n : Nat) (v : Value) (xs : List Int) (w : World) (h : IntsAt w v xs) (hS : IsSet n xs) :
    Calls Try.prog 26 #[.int .i64 (n : Nat), v] w (DifPost (difL n xs) (difE n xs) w) := by
  have HS := Lib.hid hS
  have hn1 := hS.lo; have hn2 := hS.hi
  have hl : (xs.length : Int) ≤ n := inc_len hS.rng hS.inc (by omega)
  have hE : difE n xs = if dAll n xs n then 0 else 4 := by unfold difE; rw [if_neg (by rw [hS.fault]; simp), Int.toNat_natCast]
  have HE := Lib.hid hE
  obtain ⟨a, c, rfl, h1, h2, _, h3⟩ := h
  have HX := Lib.hid h3
  obtain ⟨i0, hi0, hz0, hz1, hz2⟩ := info_parts info_int
  clear h3 hS hE
  go_enter Try.func26, Try.ntmps26
  go_wp2_with (at_make; go_must (refine wpList_make_full _ rfl _ _ _ rfl w.heap.size 3 i0 _ 1 Try.underlying22 hi0 hz0 hz1 _ _ _ _ n rfl rfl rfl rfl (by rw [hz2]; omega) (by unfold maxLen; omega) (by simp) ?_; intro w2 hown2 hgrow2))
  have HZ2 : Hid (DoRel n xs w 0 0 w2) := ⟨(nums_of_made hown2).congr fun q _ => by simp [dto, drow], (Below.refl _ _).grown hgrow2 (by simp) (by intro k hk; cases hk)⟩
  clear hown2 hgrow2
  go_wp2_with fail
  go_loopw [7] (fun s wr => ∃ i : Nat, i ≤ xs.length ∧ s = .int .i64 i ∧ DoRel n xs w i 0 wr) (fun s _ => xs.length - (intOf s).toNat)
  case atStart => exact ⟨0, by omega, rfl, HZ2.out⟩
  case round =>
    clear HZ2
    obtain ⟨i, hi, rfl, hR⟩ := hrel
    have HR := Lib.hid hR; clear hR
    by_cases hlt : i < xs.length
    · go_wp2_with fail
      go_loopw [8] (fun s wr => ∃ j : Nat, j ≤ xs.length ∧ s = .int .i64 j ∧ DoRel n xs w i j wr) (fun s _ => xs.length - (intOf s).toNat)
      case atStart => exact ⟨0, by omega, rfl, HR.out⟩
      case round =>
        clear HR
        obtain ⟨j, hj, rfl, hR⟩ := hrel
        have HR := Lib.hid hR; clear hR
        by_cases hji : j < xs.length
        · obtain ⟨b, o, rfl, hbb, hcc⟩ := HX.out i hlt
          have hci : wr.cell? ⟨b, o + i, none⟩ = some (.int .i64 (ix xs i)) := by rw [(bcell HR.out.bel).1 _ _ hbb]; exact hcc i hlt
          have hcj : wr.cell? ⟨b, o + j, none⟩ = some (.int .i64 (ix xs j)) := by rw [(bcell HR.out.bel).1 _ _ hbb]; exact hcc j hji
          have hne : b ≠ w.heap.size := by omega
          have hui := HS.out.rng i hlt
          have huj := HS.out.rng j hji
          have i1 : ((i : Nat) : Int) < ((xs.length : Nat) : Int) := by omega
          have i2 : ((j : Nat) : Int) < ((xs.length : Nat) : Int) := by omega
          have hm0 : ¬ n = 0 := by omega
          have hd := dN_val (v := n) (a := ix xs i) (b := ix xs j) (by omega)
          have hw : IntKind.i64.wrap ((dN n (ix xs i) (ix xs j) : Nat) : Int) = ((dN n (ix xs i) (ix xs j) : Nat) : Int) := IntWalk.i64_in _ (by omega)
          have fc : wr.cell? ⟨w.heap.size, dN n (ix xs i) (ix xs j), none⟩ = some (.int .i64 ((dto n xs i (dN n (ix xs i) (ix xs j)) + drow n xs i j (dN n (ix xs i) (ix xs j)) : Nat) : Int)) := HR.out.nums.cell hd.2
          have ff := HR.out.nums.free hd.2
          have hb1 : dto n xs i (dN n (ix xs i) (ix xs j)) ≤ i * xs.length := dto_le _ _ _ _
          have hb2 := drow_le n xs i (dN n (ix xs i) (ix xs j)) j
          have hb3 : i * xs.length ≤ 60 * 60 := Nat.mul_le_mul (by omega) (by omega)
          have HN : Hid (∀ m (x : Int), x = ((dto n xs i (dN n (ix xs i) (ix xs j)) + drow n xs i j (dN n (ix xs i) (ix xs j)) : Nat) : Int) + 1 → DoRel n xs w i (j + 1) ((wr.drewN m).setCell ⟨w.heap.size, dN n (ix xs i) (ix xs j), none⟩ (.int .i64 x))) := fun m x hx => by
            refine ⟨(Nums.set (w := wr.drewN m) HR.out.nums hd.2 x).congr fun q hq => ?_, (below_drewN HR.out.bel m).setCell (Nat.le_refl _) _⟩
            show Value.int .i64 (if q = dN n (ix xs i) (ix xs j) then x else ((dto n xs i q + drow n xs i j q : Nat) : Int)) = Value.int .i64 ((dto n xs i q + drow n xs i (j + 1) q : Nat) : Int)
            congr 1
            rw [drow]
            by_cases e : q = dN n (ix xs i) (ix xs j)
            · subst e; rw [if_pos rfl, if_pos rfl, hx]; omega
            · rw [if_neg e, if_neg (fun e2 => e e2.symm)]; omega
          have hdv := hd.1
          have hdl : ((dN n (ix xs i) (ix xs j) : Nat) : Int) < n := by omega
          have hdl2 := hd.2
          generalize dN n (ix xs i) (ix xs j) = q at *
          generalize ix xs i = A at *
          generalize ix xs j = B at *
          have hcnt : dto n xs i q + drow n xs i j q ≤ 4000 := by omega
          clear hb1 hb2 hb3 hd hcc
          generalize dto n xs i q + drow n xs i j q = C at *
          go_wp2_with fail
          go_region
          all_goals
            go_wp2_with fail
            go_roundw
            case rel => exact ⟨j + 1, by omega, by go_num, HN.out _ _ (by go_num)⟩
            case measure => simp [intOf]; omega
        · obtain rfl : j = xs.length := by omega
          go_wp2_with fail
          go_roundw
          case rel => exact ⟨i + 1, by omega, by go_num, ⟨HR.out.nums.congr fun q _ => rfl, HR.out.bel⟩⟩
          case measure => simp [intOf]; omega
    · obtain rfl : i = xs.length := by omega
      have HFd : Hid (Nums wr w.heap.size n (fun j => (dcnt n xs j : Nat))) := HR.out.nums.congr fun q _ => rfl
      have HB : Hid (Below w.heap.size w wr) := HR.out.bel
      have hbd : ∀ q, dcnt n xs q ≤ 3600 := fun q => Nat.le_trans (dto_le n xs q xs.length) (Nat.mul_le_mul (show xs.length ≤ 60 by omega) (show xs.length ≤ 60 by omega))
      clear HR
      go_wp2_with fail
      go_loopw [9] (fun s wr2 => ∃ m nd : Nat, 2 ≤ m ∧ (m ≤ n ∨ m = 2) ∧ s = .int .i64 m ∧ dAll n xs m = true ∧ wr2 = wr.drewN nd) (fun s _ => n + 2 - (intOf s).toNat)
      case atStart => exact ⟨2, 0, by omega, .inr rfl, rfl, by simp [dAll], rfl⟩
      case round =>
        obtain ⟨m, nd, hm1, hm2, rfl, hA, rfl⟩ := hrel
        have HAl := Lib.hid hA
        clear hA
        by_cases hmn : m < n
        · have c1 := HFd.out.cell (show m < n by omega)
          have c2 := HFd.out.cell (show 1 < n by omega)
          have hm60 : (m : Int) < n := by omega
          have hd1 := hbd m; have hd2 := hbd 1
          have i2 : (1 : Int) < n := by omega
          cases e : (((dcnt n xs m : Nat) : Int) != ((dcnt n xs 1 : Nat) : Int))
          · have He : Hid (dcnt n xs m = dcnt n xs 1) := by show _ = _; simp at e; omega
            go_wp2_with fail
            go_quiet (fail)
            go_wp2_with fail
            go_roundw
            case rel => exact ⟨m + 1, _, by omega, .inl (by omega), by go_num, by rw [dAll, HAl.out, He.out]; simp, rfl⟩
            case measure => simp [intOf]; omega
          · have He : Hid (dcnt n xs m ≠ dcnt n xs 1) := by show _ ≠ _; simp at e; omega
            have HF : Hid (difE n xs = 4) := by show _ = _; rw [HE.out, dAll_stop (by omega) He.out hmn]; rfl
            have HF2 : Hid (difL n xs = 0) := by show _ = _; unfold difL; rw [HF.out]; rfl
            go_wp2_with fail
            go_quiet (fail)
            go_wp2_with fail
            go_ret2
            exact ⟨by rw [HF.out, HF2.out]; rfl, below_drewN (below_drewN HB.out _) _⟩
        · by_cases h1 : n = 1
          · have HA1 : Hid (dAll n xs n = true) := by show _ = _; rw [h1]; simp [dAll]
            have HF : Hid (difE n xs = 0) := by show _ = _; rw [HE.out, HA1.out]; rfl
            have HF2 : Hid (difL n xs = 0) := by show _ = _; unfold difL; rw [if_pos HF.out, if_pos (by omega)]
            have e1 : (((n : Nat) : Int) == 1) = true := by simp [h1]
            clear h1
            go_wp2_with fail
            go_ret2
            exact ⟨by rw [HF.out, HF2.out]; rfl, below_drewN HB.out _⟩
          · obtain rfl : m = n := by omega
            have HF : Hid (difE m xs = 0) := by show _ = _; rw [HE.out, HAl.out]; rfl
            have HF2 : Hid (difL m xs = (dcnt m xs 1 : Nat)) := by show _ = _; unfold difL; rw [if_pos HF.out, if_neg (by omega), Int.toNat_natCast]
            have e1 : (((m : Nat) : Int) == 1) = false := by simp; omega
            have c2 := HFd.out.cell (show 1 < m by omega)
            have i2 : (1 : Int) < m := by omega
            clear h1
            go_wp2_with fail
            go_ret2
            exact ⟨by rw [HF.out, HF2.out]; rfl, below_drewN HB.out _⟩
end Go.Proofs.Ytnmgambilpoeiaa
