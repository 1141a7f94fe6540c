/-
  Contracts: the reference's Golomb, the program's apart: are all differences unlike? No condition.
-/
import Derived.Test.YtjmmlcognmceaaaGolLaw
import Derived.Test.YtjmmlcognmceaaaLies
import Derived.Maps.OwnSet
namespace Go.Proofs.Ytjmmlcognmceaaa
open Go.RowKit Go.Maps

/-- All lie between 0 and a bound. -/
def Upto (B : Int) (xs : List Int) : Prop := ∀ k, k < xs.length → 0 ≤ ix xs k ∧ ix xs k ≤ B

set_option maxRecDepth 100000 in
set_option maxHeartbeats 1000000 in
theorem golomb_any (v : Value) (xs : List Int) (w : World) (h : IntsAt w v xs) (hu : Upto 1000000000 xs) (hl : xs.length ≤ 1000) :
    Calls Try.prog 22 #[v] w fun e w' => e = .returned (.bool (golB xs)) ∧ Below w.heap.size w w' := by
  obtain ⟨a, c, rfl, h1, h2, _, h3⟩ := h
  have HX := Lib.hid h3; have HU := Lib.hid hu
  clear h3 hu
  go_enter Try.func22, Try.ntmps22
  go_wp2
  go_loopw [3, 4] (fun sd si wr => ∃ (i : Nat) (v : Value), i ≤ xs.length ∧ si = .int .i64 i ∧ sd = v ∧ nodB (dAll xs i) = true ∧ Own wr w.heap.size 3 v (dAll xs i) ∧ Below w.heap.size w wr) (fun _ si _ => xs.length - (intOf si).toNat)
  case atStart => exact ⟨0, _, by omega, rfl, rfl, rfl, own_nil _ _ _, Below.refl _ _⟩
  case round =>
    obtain ⟨i, v, hi, rfl, hsd, hn, ho, hb⟩ := hrel
    subst hsd
    have HN := Lib.hid hn; have HO := Lib.hid ho; have HB := Lib.hid hb
    clear hn ho hb
    by_cases hlt : i < xs.length
    · obtain ⟨b, o, rfl, hbb, hcc⟩ := HX.out i hlt
      have HC := Lib.hid hcc
      have hui := HU.out i hlt
      clear hcc
      go_wp2_with fail
      go_loopw [3, 5] (fun sd sj wr => ∃ (j : Nat) (v : Value), j ≤ i ∧ sj = .int .i64 j ∧ sd = v ∧ nodB (dRow xs i (dAll xs i) j) = true ∧ Own wr w.heap.size 3 v (dRow xs i (dAll xs i) j) ∧ Below w.heap.size w wr) (fun _ sj _ => i - (intOf sj).toNat)
      case atStart => exact ⟨0, _, by omega, rfl, rfl, HN.out, HO.out, HB.out⟩
      case round =>
        clear HN HO HB
        obtain ⟨j, v, hj, rfl, hsd, hn, ho, hb⟩ := hrel
        subst hsd
        have HN := Lib.hid hn; have HO := Lib.hid ho; have HB := Lib.hid hb
        clear hn ho hb
        by_cases hji : j < i
        · have huj := HU.out j (by omega)
          have hci : wr.cell? ⟨b, o + i, none⟩ = some (.int .i64 (ix xs i)) := by rw [(bcell HB.out).1 _ _ hbb]; exact HC.out i hlt
          have hcj : wr.cell? ⟨b, o + j, none⟩ = some (.int .i64 (ix xs j)) := by rw [(bcell HB.out).1 _ _ hbb]; exact HC.out j (by omega)
          have i1 : ((i : Nat) : Int) < ((xs.length : Nat) : Int) := by omega
          have i2 : ((j : Nat) : Int) < ((xs.length : Nat) : Int) := by omega
          have hlen : (dRow xs i (dAll xs i) j).length < 1000000000 := by
            rw [dRow_len]
            have := dAll_len xs i
            have h2 : i * i ≤ 1000 * 1000 := Nat.mul_le_mul (by omega) (by omega)
            omega
          have HLn := Lib.hid hlen; clear hlen
          have hw : IntKind.i64.wrap (ix xs i - ix xs j) = ix xs i - ix xs j := IntWalk.i64_in _ (by omega)
          cases em : mem (dRow xs i (dAll xs i) j) (ix xs i - ix xs j)
          · have Hm := Lib.hid em
            go_wp2_with fail
            go_quiet (fail)
            clear hw hci hcj
            have HO1 := Lib.hid (HO.out.drewN nq)
            have HI1 := Lib.hid (HO1.out.intsAt (by have := HLn.out; omega))
            have HL := Lib.hid (lies_any (ix xs i - ix xs j) _ _ _ HI1.out)
            rw [Hm.out] at HL
            clear em
            go_wp2_with fail
            refine (HL.out).mono ?_
            rintro e w' ⟨rfl, rfl⟩
            have HO2 := Lib.hid (HO1.out.alloc (.cells #[.int .i64 (ix xs i - ix xs j)] 3))
            have Hne : Hid (((wr.drewN nq).alloc (.cells #[.int .i64 (ix xs i - ix xs j)] 3)).cell? ⟨wr.heap.size, 0, none⟩ = some (.int .i64 (ix xs i - ix xs j))) := World.cell?_alloc_new (wr.drewN nq) #[.int .i64 (ix xs i - ix xs j)] 3 0
            have Hbz : Hid (w.heap.size ≤ ((wr.drewN nq).alloc (.cells #[.int .i64 (ix xs i - ix xs j)] 3)).heap.size) := by show _ ≤ _; have := HB.out.size; simp; omega
            go_wp2_with (at_builtin; refine app_own rfl _ _ rfl rfl HO2.out wr.heap.size (ix xs i - ix xs j) rfl Hne.out HLn.out Hbz.out ?_; intro v' w1 hown1 hgrow)
            have HB1 : Hid (Below w.heap.size w w1) := ((below_drewN HB.out nq).trans (((Below.refl _ _).alloc (below_drewN HB.out nq).size _).grown hgrow Hbz.out (fun q hq => (HO.out.block q hq).1)))
            have HOn := Lib.hid hown1
            clear hown1 hgrow
            go_roundw
            case rel => exact ⟨j + 1, _, by omega, by go_num, rfl, by rw [dRow, nodB_snoc, HN.out, Hm.out]; rfl, HOn.out, HB1.out⟩
            case measure => simp [intOf]; omega
          · have Hm := Lib.hid em
            go_wp2_with fail
            go_quiet (fail)
            clear hw hci hcj
            have HO1 := Lib.hid (HO.out.drewN nq)
            have HI1 := Lib.hid (HO1.out.intsAt (by have := HLn.out; omega))
            have HL := Lib.hid (lies_any (ix xs i - ix xs j) _ _ _ HI1.out)
            rw [Hm.out] at HL
            clear em
            go_wp2_with fail
            refine (HL.out).mono ?_
            rintro e w' ⟨rfl, rfl⟩
            go_wp2_with fail
            go_ret
            exact ⟨ret_bool (gol_hit hji hlt Hm.out).symm, below_drewN HB.out nq⟩
        · obtain rfl : j = i := by omega
          go_wp2_with fail
          go_roundw
          case rel => exact ⟨j + 1, _, by omega, by go_num, rfl, HN.out, HO.out, HB.out⟩
          case measure => simp [intOf]; omega
    · obtain rfl : i = xs.length := by omega
      go_wp2_with fail
      go_ret
      exact ⟨ret_bool (by unfold golB; rw [HN.out]), HB.out⟩

/-- The map of a block holds these numbers as keys. -/
def SetIs (w : World) (b : Nat) (acc : List Int) : Prop := ∃ (n : Nat) (D : DataW Unit), n ≤ acc.length ∧ w.ownsMap Try.prog 3 (plainElem Try.prog 3) b n D ∧ IsMap D ∧ ∀ x, Maps.has D (.int .i64 x) = mem acc x
theorem key_int : Keyed Try.prog 3 := int_keyed Try.underlying3
theorem zero_int (w : World) : (zeroValue 3).run Try.prog w = .ok (.int .i64 0) w := by kernel_rfl
end Go.Proofs.Ytjmmlcognmceaaa
