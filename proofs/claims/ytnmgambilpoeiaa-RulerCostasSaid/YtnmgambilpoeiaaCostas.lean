/-
  Contract: ruler.costas: are all pairs of places and numbers apart otherwise? No condition.
-/
import Derived.Test.YtnmgambilpoeiaaStep
import Derived.Test.YtnmgambilpoeiaaApart
namespace Go.Proofs.Ytnmgambilpoeiaa
open Go.RowKit Go.Maps

/-- How far place j is from the first places, in places and in numbers, behind others; all. -/
def sRow (xs : List Int) (j : Nat) (acc : List (Int × Int)) : Nat → List (Int × Int)
  | 0 => acc
  | i + 1 => sRow xs j acc i ++ [((j : Int) - i, ix xs j - ix xs i)]
def sAll (xs : List Int) : Nat → List (Int × Int)
  | 0 => []
  | j + 1 => sRow xs j (sAll xs j) j
def cosB (xs : List Int) : Bool := decide (sAll xs xs.length).Nodup
theorem sRow_len (xs : List Int) (j : Nat) (acc : List (Int × Int)) : ∀ i, (sRow xs j acc i).length = acc.length + i
  | 0 => rfl
  | i + 1 => by rw [sRow, List.length_append, sRow_len xs j acc i]; rfl
theorem sAll_len (xs : List Int) : ∀ j, (sAll xs j).length ≤ j * j
  | 0 => Nat.le_refl _
  | j + 1 => by
    have := sAll_len xs j
    rw [sAll, sRow_len, Nat.add_mul, Nat.mul_add]; omega
theorem sRow_pre (xs : List Int) (j : Nat) (acc : List (Int × Int)) {i i' : Nat} (h : i ≤ i') : ∃ t, sRow xs j acc i' = sRow xs j acc i ++ t := by
  induction i' with
  | zero => have : i = 0 := by omega
            subst this; exact ⟨[], by simp⟩
  | succ i' ih =>
    by_cases e : i = i' + 1
    · subst e; exact ⟨[], by simp⟩
    · obtain ⟨t, ht⟩ := ih (by omega)
      exact ⟨t ++ [((j : Int) - i', ix xs j - ix xs i')], by rw [sRow, ht, List.append_assoc]⟩
theorem sAll_pre (xs : List Int) {j j' : Nat} (h : j ≤ j') : ∃ t, sAll xs j' = sAll xs j ++ t := by
  induction j' with
  | zero => have : j = 0 := by omega
            subst this; exact ⟨[], by simp⟩
  | succ j' ih =>
    by_cases e : j = j' + 1
    · subst e; exact ⟨[], by simp⟩
    · obtain ⟨t, ht⟩ := ih (by omega)
      obtain ⟨u, hu⟩ := sRow_pre xs j' (sAll xs j') (Nat.zero_le j')
      exact ⟨t ++ u, by rw [sAll, hu]; show sAll xs j' ++ u = _; rw [ht, List.append_assoc]⟩
theorem cos_hit {xs : List Int} {j i : Nat} (hi : i < j) (hj : j < xs.length) (h : ((j : Int) - i, ix xs j - ix xs i) ∈ sRow xs j (sAll xs j) i) : cosB xs = false := by
  unfold cosB
  rw [decide_eq_false_iff_not]
  intro hn
  obtain ⟨t, ht⟩ := sAll_pre xs (show j + 1 ≤ xs.length by omega)
  obtain ⟨u, hu⟩ := sRow_pre xs j (sAll xs j) (show i + 1 ≤ j by omega)
  rw [ht, sAll, hu, sRow] at hn
  have h1 := (List.nodup_append.1 ((List.nodup_append.1 ((List.nodup_append.1 hn).1)).1)).2.2 _ h _ (List.mem_singleton.2 rfl)
  exact h1 rfl

/-- The map of a block holds these pairs as keys. -/
def StepIs (w : World) (b : Nat) (acc : List (Int × Int)) : Prop :=
  ∃ (n : Nat) (D : DataW Unit), n ≤ acc.length ∧ w.ownsMap Try.prog 70 (plainElem Try.prog 3) b n D ∧ IsMap D ∧
    ∀ x y, (Lit.int .i64 x).wf = true → (Lit.int .i64 y).wf = true → Maps.has D (.string (keyBytes [.int .i64 x, .int .i64 y])) = decide ((x, y) ∈ acc)
theorem StepIs.made (w : World) : StepIs (w.alloc (.map #[] 0)) w.heap.size [] :=
  ⟨0, .map [], Nat.le_refl _, World.ownsMap_made _ _ _ _, ⟨[], rfl⟩, fun x y _ _ => by simp [Maps.has]⟩
theorem has_put_step {D : DataW Unit} (h : IsMap D) {a b x y : Int} (wa : (Lit.int .i64 a).wf = true) (wb : (Lit.int .i64 b).wf = true) (wx : (Lit.int .i64 x).wf = true) (wy : (Lit.int .i64 y).wf = true) (d : DataW Unit) :
    Maps.has (D.put (.string (keyBytes [.int .i64 a, .int .i64 b])) d) (.string (keyBytes [.int .i64 x, .int .i64 y])) = (Maps.has D (.string (keyBytes [.int .i64 x, .int .i64 y])) || decide ((x, y) = (a, b))) := by
  by_cases e : (x, y) = (a, b)
  · injection e with e1 e2
    subst e1; subst e2
    rw [has_put_same h (show WideAt.IsKeyLit (.string _) from trivial)]; simp
  · rw [has_put_other]
    · simp [e]
    · intro e2
      have h1 := keyOf_step wa wb
      have h2 := keyOf_step wx wy
      rw [← e2] at h1
      have h3 := key_step.inj h1 h2
      injection h3 with h3
      injection h3 with h3
      injection h3 with h3 h4
      injection h3 with _ h3
      injection h4 with h4 _
      injection h4 with _ h4
      exact e (by rw [h3, h4])

set_option maxRecDepth 100000 in
set_option maxHeartbeats 2000000 in
theorem costas_any (v : Value) (xs : List Int) (w : World) (h : IntsAt w v xs) (hu : Upto 1000000000 xs) (hl : xs.length ≤ 1000) :
    Calls Try.prog 33 #[v] w fun e w' => e = .returned (.bool (cosB xs)) ∧ Below w.heap.size w w' := by
  obtain ⟨a, c, rfl, h1, h2, _, h3⟩ := h
  have HX := Lib.hid h3; have HU := Lib.hid hu
  have HM := Lib.hid (StepIs.made w)
  clear h3 hu
  have hmm := @run_makeMap Try.prog
  go_enter Try.func33, Try.ntmps33
  go_wp2_with fail
  clear hmm
  go_loopw [14] (fun sj wr => ∃ j : Nat, j ≤ xs.length ∧ sj = .int .i64 j ∧ (sAll xs j).Nodup ∧ StepIs wr w.heap.size (sAll xs j) ∧ Below w.heap.size w wr) (fun sj _ => xs.length - (intOf sj).toNat)
  case atStart => exact ⟨0, by omega, rfl, List.nodup_nil, HM.out, below_box w _⟩
  case round =>
    clear HM
    obtain ⟨j, hj, rfl, hn, hs, hb⟩ := hrel
    have HN := Lib.hid hn; have HS := Lib.hid hs; have HB := Lib.hid hb
    clear hn hs hb
    by_cases hlt : j < xs.length
    · obtain ⟨b, o, rfl, hbb, hcc⟩ := HX.out j hlt
      have HC := Lib.hid hcc
      have huj := HU.out j hlt
      have hcj : wr.cell? ⟨b, o + j, none⟩ = some (.int .i64 (ix xs j)) := by rw [(bcell HB.out).1 _ _ hbb]; exact hcc j hlt
      have hsl := fun W => run_high W (some ⟨b, o, none⟩) xs.length c j (by omega)
      clear hcc
      go_wp2_with fail
      clear hcj hsl
      go_loopw [23] (fun si wr => ∃ i : Nat, i ≤ j ∧ si = .int .i64 i ∧ (sRow xs j (sAll xs j) i).Nodup ∧ StepIs wr w.heap.size (sRow xs j (sAll xs j) i) ∧ Below w.heap.size w wr) (fun si _ => j - (intOf si).toNat)
      case atStart => exact ⟨0, by omega, rfl, HN.out, HS.out, HB.out⟩
      case round =>
        clear HN HS HB
        obtain ⟨i, hi, rfl, hn, hs, hb⟩ := hrel
        have HN := Lib.hid hn; have HB := Lib.hid hb; have HS := Lib.hid hs
        obtain ⟨n, D, hnl, hown, hD, hhas⟩ := hs
        have hwb := hb.size
        have HO := Lib.hid (hown.alloc (.cells #[.int .i64 ((j : Int) - (i : Int)), .int .i64 (ix xs j - ix xs i)] 70))
        have HD := Lib.hid hD; have HH := Lib.hid hhas; have HNl := Lib.hid hnl
        clear hn hb hown hD hhas hnl
        by_cases hij : i < j
        · have hui := HU.out i (by omega)
          have hci : wr.cell? ⟨b, o + i, none⟩ = some (.int .i64 (ix xs i)) := by rw [(bcell HB.out).1 _ _ hbb]; exact HC.out i (by omega)
          have hlen : (sRow xs j (sAll xs j) i).length < 1000000000 := by
            rw [sRow_len]
            have := sAll_len xs j
            have h2 : j * j ≤ 1000 * 1000 := Nat.mul_le_mul (by omega) (by omega)
            omega
          have HLn := Lib.hid hlen; clear hlen
          have w1 : (Lit.int .i64 ((j : Int) - (i : Int))).wf = true := WalkArith.wf_i64 (by omega)
          have w2 : (Lit.int .i64 (ix xs j - ix xs i)).wf = true := WalkArith.wf_i64 (by omega)
          have HW1 := Lib.hid w1; have HW2 := Lib.hid w2
          have HK := Lib.hid (keyOf_step w1 w2)
          have hh0 := HH.out _ _ w1 w2
          clear w1 w2
          by_cases em : ((j : Int) - (i : Int), ix xs j - ix xs i) ∈ sRow xs j (sAll xs j) i
          · have Hm := Lib.hid em
            have hh : Maps.has D (.string (keyBytes [.int .i64 ((j : Int) - (i : Int)), .int .i64 (ix xs j - ix xs i)])) = true := by rw [hh0]; simpa using em
            clear em hh0
            go_wp2_with (at_lookup; refine wpList_lookup_own_ok_int _ rfl _ _ 68 rfl 70 3 .i64 key_step Try.underlying68 Try.underlying3 (zero_int _) w.heap.size n D rfl HO.out _ _ rfl HK.out ?_; intro c hat hwc; clear hat hwc)
            go_ret
            exact ⟨ret_bool (cos_hit hij hlt Hm.out).symm, HB.out.alloc hwb _⟩
          · have Hm := Lib.hid em
            have hh : Maps.has D (.string (keyBytes [.int .i64 ((j : Int) - (i : Int)), .int .i64 (ix xs j - ix xs i)])) = false := by rw [hh0]; simpa using em
            clear em hh0
            go_wp2_with (first
              | (at_lookup; refine wpList_lookup_own_ok_int _ rfl _ _ 68 rfl 70 3 .i64 key_step Try.underlying68 Try.underlying3 (zero_int _) w.heap.size n D rfl HO.out _ _ rfl HK.out ?_; intro c hat hwc; clear hat hwc)
              | (at_mapUpdate; refine wpList_mapUpdate_own _ rfl _ _ _ 68 rfl 70 3 key_step Try.underlying68 (plainElem Try.prog 3) w.heap.size n D rfl HO.out (by have := HNl.out; have := HLn.out; unfold maxLen; omega) _ _ _ rfl rfl HK.out _ [] (plainElem_int Try.underlying3 (WalkArith.wf_i64 (by omega))) ?_; intro w3 hown1 hgrow1))
            have HS1 : Hid (StepIs w3 w.heap.size (sRow xs j (sAll xs j) (i + 1))) := by
              refine ⟨n + 1, _, ?_, hown1, HD.out.put _ _, fun x y wx wy => ?_⟩
              · rw [sRow, List.length_append]; have := HNl.out; simp; exact this
              · rw [has_put_step HD.out HW1.out HW2.out wx wy, HH.out x y wx wy, sRow, ← Bool.decide_or]
                simp
            have HB1 := Lib.hid ((HB.out.alloc hwb _).grown hgrow1 (by rw [World.size_alloc]; omega) (fun k hk => by cases hk; exact Nat.le_refl _))
            clear hown1 hgrow1
            go_roundw
            case rel => exact ⟨i + 1, by omega, by go_num, by rw [sRow]; exact List.nodup_append.2 ⟨HN.out, by simp, fun p hp q hq e => by simp at hq; subst hq; subst e; exact Hm.out hp⟩, HS1.out, HB1.out⟩
            case measure => simp [intOf]; omega
        · obtain rfl : i = j := by omega
          have HS2 : Hid (StepIs wr w.heap.size (sAll xs (i + 1))) := HS.out
          go_wp2_with fail
          go_roundw
          case rel => exact ⟨i + 1, by omega, by go_num, HN.out, HS2.out, HB.out⟩
          case measure => simp [intOf]; omega
    · obtain rfl : j = xs.length := by omega
      go_wp2_with fail
      go_ret
      exact ⟨ret_bool (by unfold cosB; exact (decide_eq_true HN.out).symm), HB.out⟩
end Go.Proofs.Ytnmgambilpoeiaa
