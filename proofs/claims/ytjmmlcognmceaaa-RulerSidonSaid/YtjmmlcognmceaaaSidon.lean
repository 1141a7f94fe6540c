/-
  Contracts: ruler.Sidon, the reference's SidonOf: are all sums unlike? No condition.
-/
import Derived.Test.YtjmmlcognmceaaaRCheck
namespace Go.Proofs.Ytjmmlcognmceaaa
open Go.RowKit

/-- The sums of element i with the first of those up to it, modulo v. -/
def sRow (l : List Int) (v : Int) (i : Nat) (acc : List Int) : Nat → List Int
  | 0 => acc
  | j + 1 => sRow l v i acc j ++ [(ix l i + ix l j) % v]
def sAll (l : List Int) (v : Int) : Nat → List Int
  | 0 => []
  | i + 1 => sRow l v i (sAll l v i) (i + 1)
def sidB (l : List Int) (v : Int) : Bool := nodB (sAll l v l.length)
theorem sRow_pre (l : List Int) (v : Int) (i : Nat) (acc : List Int) {j j' : Nat} (h : j ≤ j') : ∃ t, sRow l v i acc j' = sRow l v i acc j ++ t := by
  induction j' with
  | zero => have : j = 0 := by omega
            subst this; exact ⟨[], by simp⟩
  | succ j' ih =>
    by_cases e : j = j' + 1
    · subst e; exact ⟨[], by simp⟩
    · obtain ⟨t, ht⟩ := ih (by omega)
      exact ⟨t ++ [(ix l i + ix l j') % v], by rw [sRow, ht, List.append_assoc]⟩
theorem sAll_pre (l : List Int) (v : Int) {i i' : Nat} (h : i ≤ i') : ∃ t, sAll l v i' = sAll l v i ++ t := by
  induction i' with
  | zero => have : i = 0 := by omega
            subst this; exact ⟨[], by simp⟩
  | succ i' ih =>
    by_cases e : i = i' + 1
    · subst e; exact ⟨[], by simp⟩
    · obtain ⟨t, ht⟩ := ih (by omega)
      obtain ⟨s, hs⟩ := sRow_pre l v i' (sAll l v i') (Nat.zero_le (i' + 1))
      exact ⟨t ++ s, by rw [sAll, hs, sRow, ht, List.append_assoc]⟩
theorem sid_hit {l : List Int} {v : Int} {i j : Nat} (hj : j ≤ i) (hi : i < l.length) (h : mem (sRow l v i (sAll l v i) j) ((ix l i + ix l j) % v) = true) : sidB l v = false := by
  cases e : sidB l v
  · rfl
  · exfalso
    obtain ⟨t, ht⟩ := sAll_pre l v (show i + 1 ≤ l.length by omega)
    obtain ⟨s, hs⟩ := sRow_pre l v i (sAll l v i) (show j + 1 ≤ i + 1 by omega)
    unfold sidB at e
    rw [ht, sAll, hs, List.append_assoc] at e
    have := nodB_pre e
    rw [sRow, nodB_snoc, h] at this
    simp at this
theorem sRow_len (l : List Int) (v : Int) (i : Nat) (acc : List Int) : ∀ j, (sRow l v i acc j).length = acc.length + j
  | 0 => rfl
  | j + 1 => by rw [sRow, List.length_append, sRow_len l v i acc j]; simp; omega
theorem sAll_len (l : List Int) (v : Int) (i : Nat) : (sAll l v i).length ≤ i * (i + 1) := by
  induction i with
  | zero => simp [sAll]
  | succ i ih => rw [sAll, sRow_len]; simp only [Nat.add_mul, Nat.mul_add] at *; omega

set_option maxRecDepth 100000 in
set_option maxHeartbeats 1000000 in
theorem sidonOf_any (n : Int) (v : Value) (xs : List Int) (w : World) (h : IntsAt w v xs) (hS : IsSet n xs) :
    Calls Try.prog 25 #[v, .int .i64 n] w fun e w' => e = .returned (.bool (sidB xs n)) ∧ Below w.heap.size w w' := by
  obtain ⟨a, c, rfl, h1, h2, _, h3⟩ := h
  have HX := Lib.hid h3; have HS := Lib.hid hS
  have hn1 := hS.lo; have hn2 := hS.hi
  have hl : (xs.length : Int) ≤ n := inc_len hS.rng hS.inc (by omega)
  clear h3 hS
  go_enter Try.func25, Try.ntmps25
  go_wp2
  go_loopw [5, 6] (fun sd si wr => ∃ (i : Nat) (v : Value), i ≤ xs.length ∧ si = .int .i64 i ∧ sd = v ∧ nodB (sAll xs n i) = true ∧ Own wr w.heap.size 3 v (sAll xs n i) ∧ Below w.heap.size w wr) (fun _ si _ => xs.length - (intOf si).toNat)
  case atStart => exact ⟨0, _, by omega, rfl, rfl, rfl, own_nil _ _ _, Below.refl _ _⟩
  case round =>
    obtain ⟨i, v, hi, rfl, hsd, hn, ho, hb⟩ := hrel
    subst hsd
    have HN := Lib.hid hn; have HO := Lib.hid ho; have HB := Lib.hid hb
    clear hn ho hb
    by_cases hlt : i < xs.length
    · obtain ⟨b, o, rfl, hbb, hcc⟩ := HX.out i hlt
      have HC := Lib.hid hcc
      have hui := HS.out.rng i hlt
      clear hcc
      go_wp2_with fail
      go_loopw [5, 7] (fun sd sj wr => ∃ (j : Nat) (v : Value), j ≤ i + 1 ∧ sj = .int .i64 j ∧ sd = v ∧ nodB (sRow xs n i (sAll xs n i) j) = true ∧ Own wr w.heap.size 3 v (sRow xs n i (sAll xs n i) j) ∧ Below w.heap.size w wr) (fun _ sj _ => i + 1 - (intOf sj).toNat)
      case atStart => exact ⟨0, _, by omega, rfl, rfl, HN.out, HO.out, HB.out⟩
      case round =>
        clear HN HO HB
        obtain ⟨j, v, hj, rfl, hsd, hn, ho, hb⟩ := hrel
        subst hsd
        have HN := Lib.hid hn; have HO := Lib.hid ho; have HB := Lib.hid hb
        clear hn ho hb
        by_cases hji : j ≤ i
        · have huj := HS.out.rng j (by omega)
          have hci : wr.cell? ⟨b, o + i, none⟩ = some (.int .i64 (ix xs i)) := by rw [(bcell HB.out).1 _ _ hbb]; exact HC.out i hlt
          have hcj : wr.cell? ⟨b, o + j, none⟩ = some (.int .i64 (ix xs j)) := by rw [(bcell HB.out).1 _ _ hbb]; exact HC.out j (by omega)
          have i1 : ((i : Nat) : Int) < ((xs.length : Nat) : Int) := by omega
          have i2 : ((j : Nat) : Int) < ((xs.length : Nat) : Int) := by omega
          have hlen : (sRow xs n i (sAll xs n i) j).length < 1000000000 := by
            rw [sRow_len]
            have := sAll_len xs n i
            have h2 : i * (i + 1) ≤ 60 * 61 := Nat.mul_le_mul (by omega) (by omega)
            omega
          have HLn := Lib.hid hlen; clear hlen
          have hw : IntKind.i64.wrap (ix xs i + ix xs j) = ix xs i + ix xs j := IntWalk.i64_in _ (by omega)
          have hm0 : ¬ n = 0 := by omega
          have hm1 : (ix xs i + ix xs j).tmod n = (ix xs i + ix xs j) % n := Int.tmod_eq_emod_of_nonneg (by omega)
          have Hm2 : Hid (0 ≤ (ix xs i + ix xs j) % n ∧ (ix xs i + ix xs j) % n < n) := ⟨Int.emod_nonneg _ hm0, Int.emod_lt_of_pos _ (by omega)⟩
          cases em : mem (sRow xs n i (sAll xs n i) j) ((ix xs i + ix xs j) % n)
          · have Hm := Lib.hid em
            go_wp2_with fail
            go_quiet (fail)
            clear hw hci hcj
            have HO1 := Lib.hid (HO.out.drewN nq)
            have HI1 := Lib.hid (HO1.out.intsAt (by have := HLn.out; omega))
            have HL := Lib.hid (lies_any ((ix xs i + ix xs j) % n) _ _ _ HI1.out)
            rw [Hm.out] at HL
            clear em
            go_wp2_with fail
            refine (HL.out).mono ?_
            rintro e w' ⟨rfl, rfl⟩
            have HO2 := Lib.hid (HO1.out.alloc (.cells #[.int .i64 ((ix xs i + ix xs j) % n)] 3))
            have Hne : Hid (((wr.drewN nq).alloc (.cells #[.int .i64 ((ix xs i + ix xs j) % n)] 3)).cell? ⟨wr.heap.size, 0, none⟩ = some (.int .i64 ((ix xs i + ix xs j) % n))) := World.cell?_alloc_new (wr.drewN nq) #[.int .i64 ((ix xs i + ix xs j) % n)] 3 0
            have Hbz : Hid (w.heap.size ≤ ((wr.drewN nq).alloc (.cells #[.int .i64 ((ix xs i + ix xs j) % n)] 3)).heap.size) := by show _ ≤ _; have := HB.out.size; simp; omega
            go_wp2_with (at_builtin; refine app_own rfl _ _ rfl rfl HO2.out wr.heap.size ((ix xs i + ix xs j) % n) rfl Hne.out HLn.out Hbz.out ?_; intro v' w1 hown1 hgrow)
            have HB1 : Hid (Below w.heap.size w w1) := ((below_drewN HB.out nq).trans (((Below.refl _ _).alloc (below_drewN HB.out nq).size _).grown hgrow Hbz.out (fun q hq => (HO.out.block q hq).1)))
            have HOn := Lib.hid hown1
            clear hown1 hgrow
            go_roundw
            case rel => exact ⟨j + 1, _, by omega, by go_num, rfl, by rw [sRow, nodB_snoc, HN.out, Hm.out]; rfl, HOn.out, HB1.out⟩
            case measure => simp [intOf]; omega
          · have Hm := Lib.hid em
            go_wp2_with fail
            go_quiet (fail)
            clear hw hci hcj
            have HO1 := Lib.hid (HO.out.drewN nq)
            have HI1 := Lib.hid (HO1.out.intsAt (by have := HLn.out; omega))
            have HL := Lib.hid (lies_any ((ix xs i + ix xs j) % n) _ _ _ HI1.out)
            rw [Hm.out] at HL
            clear em
            go_wp2_with fail
            refine (HL.out).mono ?_
            rintro e w' ⟨rfl, rfl⟩
            go_wp2_with fail
            go_ret
            exact ⟨ret_bool (sid_hit hji hlt Hm.out).symm, below_drewN HB.out nq⟩
        · obtain rfl : j = i + 1 := by omega
          go_wp2_with fail
          go_roundw
          case rel => exact ⟨i + 1, _, by omega, by go_num, rfl, HN.out, HO.out, HB.out⟩
          case measure => simp [intOf]; omega
    · obtain rfl : i = xs.length := by omega
      go_wp2_with fail
      go_ret
      exact ⟨ret_bool (by unfold sidB; rw [HN.out]), HB.out⟩
end Go.Proofs.Ytjmmlcognmceaaa
