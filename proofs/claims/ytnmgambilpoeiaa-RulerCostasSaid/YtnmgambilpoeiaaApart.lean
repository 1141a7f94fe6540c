/-
  Contract: the program's apart: are all differences unlike? No condition.
-/
import Derived.Test.YtnmgambilpoeiaaGolomb
namespace Go.Proofs.Ytnmgambilpoeiaa
open Go.RowKit Go.Maps

theorem run_high (w : World) (a : Option Addr) (n c h : Nat) (hh : h ≤ c) :
    (Instr.slice 22 (.slice a n c) none (some (.int .i64 (h : Int))) none).run Try.prog w = .ok (.slice a h c) w := by
  rw [run_slice_h w 22 a n c und_ints .i64 h (by omega) (by omega), size_int]
  cases a with
  | none => simp [Result.andThen, sliced]
  | some p => cases p; simp [Result.andThen, sliced, Addr.add]
theorem SetIs.made (w : World) : SetIs (w.alloc (.map #[] 0)) w.heap.size [] :=
  ⟨0, .map [], Nat.le_refl _, World.ownsMap_made _ _ _ _, ⟨[], rfl⟩, fun x => by simp [Maps.has, mem]⟩
theorem has_put_int {D : DataW Unit} (h : IsMap D) (x y : Int) (d : DataW Unit) : Maps.has (D.put (.int .i64 x) d) (.int .i64 y) = (Maps.has D (.int .i64 y) || x == y) := by
  by_cases e : x = y
  · subst e
    rw [has_put_same h (show WideAt.IsKeyLit (.int .i64 x) from trivial)]; simp
  · rw [has_put_other (by intro e2; injection e2 with _ e3; exact e e3.symm)]
    simp [e]
theorem SetIs.get {w : World} {b : Nat} {acc : List Int} (h : SetIs w b acc) : ∃ (n : Nat) (D : DataW Unit), n ≤ acc.length ∧ w.ownsMap Try.prog 3 (plainElem Try.prog 3) b n D ∧ IsMap D ∧ ∀ x, Maps.has D (.int .i64 x) = mem acc x := h

set_option maxRecDepth 100000 in
set_option maxHeartbeats 1000000 in
theorem apart_any (v : Value) (xs : List Int) (w : World) (h : IntsAt w v xs) (hu : Upto 1000000000 xs) (hl : xs.length ≤ 1000) :
    Calls Try.prog 54 #[v] w fun e w' => e = .returned (.bool (golB xs)) ∧ Below w.heap.size w w' := by
  obtain ⟨a, c, rfl, h1, h2, _, h3⟩ := h
  have HX := Lib.hid h3; have HU := Lib.hid hu
  have HM := Lib.hid (SetIs.made w)
  clear h3 hu
  have hmm := @run_makeMap Try.prog
  go_enter Try.func54, Try.ntmps54
  go_wp2
  clear hmm
  go_loopw [13] (fun si wr => ∃ i : Nat, i ≤ xs.length ∧ si = .int .i64 i ∧ nodB (dAll xs i) = true ∧ SetIs wr w.heap.size (dAll xs i) ∧ Below w.heap.size w wr) (fun si _ => xs.length - (intOf si).toNat)
  case atStart => exact ⟨0, by omega, rfl, rfl, HM.out, below_box w _⟩
  case round =>
    clear HM
    obtain ⟨i, hi, rfl, hn, hs, hb⟩ := hrel
    have HN := Lib.hid hn; have HS := Lib.hid hs; have HB := Lib.hid hb
    clear hn hs hb
    by_cases hlt : i < xs.length
    · obtain ⟨b, o, rfl, hbb, hcc⟩ := HX.out i hlt
      have HC := Lib.hid hcc
      have hui := HU.out i hlt
      have hci : wr.cell? ⟨b, o + i, none⟩ = some (.int .i64 (ix xs i)) := by rw [(bcell HB.out).1 _ _ hbb]; exact hcc i hlt
      have hsl := fun W => run_high W (some ⟨b, o, none⟩) xs.length c i (by omega)
      clear hcc
      go_wp2_with fail
      clear hci hsl
      go_loopw [22] (fun sj wr => ∃ j : Nat, j ≤ i ∧ sj = .int .i64 j ∧ nodB (dRow xs i (dAll xs i) j) = true ∧ SetIs wr w.heap.size (dRow xs i (dAll xs i) j) ∧ Below w.heap.size w wr) (fun sj _ => i - (intOf sj).toNat)
      case atStart => exact ⟨0, by omega, rfl, HN.out, HS.out, HB.out⟩
      case round =>
        clear HN HS HB
        obtain ⟨j, hj, rfl, hn, hs, hb⟩ := hrel
        have HN := Lib.hid hn; have HB := Lib.hid hb
        obtain ⟨n, D, hnl, hown, hD, hhas⟩ := hs.get
        have HO := Lib.hid hown; have HD := Lib.hid hD; have HH := Lib.hid hhas; have HNl := Lib.hid hnl
        clear hn hs hb hown hD hhas hnl
        by_cases hji : j < i
        · have huj := HU.out j (by omega)
          have hcj : wr.cell? ⟨b, o + j, none⟩ = some (.int .i64 (ix xs j)) := by rw [(bcell HB.out).1 _ _ hbb]; exact HC.out j (by omega)
          have hlen : (dRow xs i (dAll xs i) j).length < 1000000000 := by
            rw [dRow_len]
            have := dAll_len xs i
            have h2 : i * i ≤ 1000 * 1000 := Nat.mul_le_mul (by omega) (by omega)
            omega
          have HLn := Lib.hid hlen; clear hlen
          have hkey := keyOf_int_mk (q := .i64) (a := ix xs i - ix xs j) Try.underlying3 (WalkArith.wf_i64 (by omega))
          have HK := Lib.hid hkey; clear hkey
          cases em : mem (dRow xs i (dAll xs i) j) (ix xs i - ix xs j)
          · have Hm := Lib.hid em
            have hh : Maps.has D (.int .i64 (ix xs i - ix xs j)) = false := by rw [HH.out, em]
            clear em
            go_wp2_with (first
              | (at_lookup; refine wpList_lookup_own_ok_int _ rfl _ _ 79 rfl 3 3 .i64 key_int Try.underlying79 Try.underlying3 (zero_int _) w.heap.size n D rfl HO.out _ _ rfl HK.out ?_; intro c hat hwc; clear hat hwc)
              | (at_mapUpdate; refine wpList_mapUpdate_own _ rfl _ _ _ 79 rfl 3 3 key_int Try.underlying79 (plainElem Try.prog 3) w.heap.size n D rfl HO.out (by have := HNl.out; have := HLn.out; unfold maxLen; omega) _ _ _ rfl rfl HK.out _ [] (plainElem_int Try.underlying3 (WalkArith.wf_i64 (by omega))) ?_; intro w1 hown1 hgrow1))
            have HS1 : Hid (SetIs w1 w.heap.size (dRow xs i (dAll xs i) (j + 1))) := by
              refine ⟨n + 1, _, ?_, hown1, HD.out.put _ _, fun x => ?_⟩
              · rw [dRow, List.length_append]; have := HNl.out; simp; exact this
              · rw [has_put_int HD.out, HH.out, dRow, mem_snoc]
            have HB1 := Lib.hid (HB.out.grown hgrow1 HB.out.size (fun k hk => by cases hk; exact Nat.le_refl _))
            clear hown1 hgrow1
            go_roundw
            case rel => exact ⟨j + 1, by omega, by go_num, by rw [dRow, nodB_snoc, HN.out, Hm.out]; rfl, HS1.out, HB1.out⟩
            case measure => simp [intOf]; omega
          · have Hm := Lib.hid em
            have hh : Maps.has D (.int .i64 (ix xs i - ix xs j)) = true := by rw [HH.out, em]
            clear em
            go_wp2_with (at_lookup; refine wpList_lookup_own_ok_int _ rfl _ _ 79 rfl 3 3 .i64 key_int Try.underlying79 Try.underlying3 (zero_int _) w.heap.size n D rfl HO.out _ _ rfl HK.out ?_; intro c hat hwc; clear hat hwc)
            go_ret
            exact ⟨ret_bool (gol_hit hji hlt Hm.out).symm, HB.out⟩
        · obtain rfl : j = i := by omega
          have HS : Hid (SetIs wr w.heap.size (dAll xs (j + 1))) := ⟨n, D, HNl.out, HO.out, HD.out, HH.out⟩
          go_wp2_with fail
          go_roundw
          case rel => exact ⟨j + 1, by omega, by go_num, HN.out, HS.out, HB.out⟩
          case measure => simp [intOf]; omega
    · obtain rfl : i = xs.length := by omega
      go_wp2_with fail
      go_ret
      exact ⟨ret_bool (by unfold golB; rw [HN.out]), HB.out⟩
end Go.Proofs.Ytnmgambilpoeiaa
