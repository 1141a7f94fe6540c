/-
  Contract: ruler.Welch. No condition.
-/
import Derived.Test.YtnmgambilpoeiaaGolLaw
import Derived.Test.YtnmgambilpoeiaaSlice
namespace Go.Proofs.Ytnmgambilpoeiaa
open Go.RowKit

/-- The powers of a root modulo p; the first k of them, less one. -/
def xw (p r : Int) : Nat → Int
  | 0 => 1
  | k + 1 => xw p r k * r % p
def wl (p r : Int) : Nat → List Int
  | 0 => []
  | k + 1 => wl p r k ++ [xw p r k - 1]
theorem wl_len (p r : Int) : ∀ k, (wl p r k).length = k
  | 0 => rfl
  | k + 1 => by rw [wl, List.length_append, wl_len p r k]; rfl
theorem xw_rng {p r : Int} (hp : 1 < p) : ∀ k, 0 ≤ xw p r k ∧ xw p r k < p
  | 0 => by rw [xw]; omega
  | k + 1 => by rw [xw]; exact ⟨Int.emod_nonneg _ (by omega), Int.emod_lt_of_pos _ (by omega)⟩
theorem wl_pre (p r : Int) {k k' : Nat} (h : k ≤ k') : ∃ t, wl p r k' = wl p r k ++ t := by
  induction k' with
  | zero => have : k = 0 := by omega
            subst this; exact ⟨[], by simp⟩
  | succ k' ih =>
    by_cases e : k = k' + 1
    · subst e; exact ⟨[], by simp⟩
    · obtain ⟨t, ht⟩ := ih (by omega)
      exact ⟨t ++ [xw p r k' - 1], by rw [wl, ht, List.append_assoc]⟩
theorem wl_hit {p r : Int} {k m : Nat} (h : k < m) (e : mem (wl p r k) (xw p r k - 1) = true) : nodB (wl p r m) = false := by
  cases e2 : nodB (wl p r m)
  · rfl
  · exfalso
    obtain ⟨t, ht⟩ := wl_pre p r (show k + 1 ≤ m by omega)
    rw [ht] at e2
    have := nodB_pre e2
    rw [wl, nodB_snoc, e] at this
    simp at this
/-- Is it a prime of which Welch's are made, with a root below it? -/
def wOk (p r : Int) : Prop := (p = 3 ∨ p = 5 ∨ p = 7 ∨ p = 11 ∨ p = 13) ∧ 1 ≤ r ∧ r < p
instance (p r : Int) : Decidable (wOk p r) := by unfold wOk; exact inferInstance
def WelchPost (p r : Int) (w : World) (e : Ending) (w' : World) : Prop :=
  Below w.heap.size w w' ∧ if wOk p r then (if nodB (wl p r (p - 1).toNat) then ∃ v, e = .returned (.tuple #[v, .int .i64 0]) ∧ IntsAt w' v (wl p r (p - 1).toNat) else e = .returned (.tuple #[.slice none 0 0, .int .i64 4]))
  else e = .returned (.tuple #[.slice none 0 0, .int .i64 1])

def lenW : Value → Nat
  | .slice _ l _ => l
  | _ => 0
set_option maxRecDepth 100000 in
set_option maxHeartbeats 2000000 in
theorem welch_any (p r : Int) (w : World) : Calls Try.prog 16 #[.int .i64 p, .int .i64 r] w (WelchPost p r w) := by
  by_cases hk : wOk p r
  · have HK := Lib.hid hk
    obtain ⟨hp, hr1, hr2⟩ := hk
    have hpp : 1 < p ∧ p ≤ 13 := by omega
    obtain ⟨hp1, hp13⟩ := hpp
    obtain ⟨m, hm⟩ : ∃ m : Nat, (p - 1).toNat = m := ⟨_, rfl⟩
    have HM : Hid (∀ e w', (Below w.heap.size w w' ∧ (if nodB (wl p r m) then ∃ v, e = .returned (.tuple #[v, .int .i64 0]) ∧ IntsAt w' v (wl p r m) else e = .returned (.tuple #[.slice none 0 0, .int .i64 4]))) → WelchPost p r w e w') := by
      intro e w' h
      unfold WelchPost
      rw [if_pos HK.out, hm]; exact h
    have hmp : p = (m : Int) + 1 := by omega
    have hm12 : m ≤ 12 := by omega
    have hch : ((p != 3) = false) ∨ ((p != 3) = true ∧ (p != 5) = false) ∨ ((p != 3) = true ∧ (p != 5) = true ∧ (p != 7) = false) ∨ ((p != 3) = true ∧ (p != 5) = true ∧ (p != 7) = true ∧ (p != 11) = false) ∨ ((p != 3) = true ∧ (p != 5) = true ∧ (p != 7) = true ∧ (p != 11) = true ∧ (p != 13) = false) := by
      rcases hp with rfl | rfl | rfl | rfl | rfl
      · exact .inl rfl
      · exact .inr (.inl ⟨rfl, rfl⟩)
      · exact .inr (.inr (.inl ⟨rfl, rfl, rfl⟩))
      · exact .inr (.inr (.inr (.inl ⟨rfl, rfl, rfl, rfl⟩)))
      · exact .inr (.inr (.inr (.inr ⟨rfl, rfl, rfl, rfl, rfl⟩)))
    clear hm hp
    have HMP := Lib.hid hmp
    clear hmp
    rcases hch with e1 | ⟨e1, e2⟩ | ⟨e1, e2, e3⟩ | ⟨e1, e2, e3, e4⟩ | ⟨e1, e2, e3, e4, e5⟩
    all_goals
      go_enter Try.func16, Try.ntmps16
      go_wp2_with fail
      go_loopw [6, 7] (fun so sn wr => ∃ (k : Nat) (v : Value), k ≤ m ∧ so = v ∧ sn = .int .i64 (xw p r k) ∧ nodB (wl p r k) = true ∧ Own wr w.heap.size 3 v (wl p r k) ∧ Below w.heap.size w wr) (fun so _ _ => 100 - lenW so)
      case atStart => exact ⟨0, _, by omega, rfl, rfl, rfl, own_nil _ _ _, Below.refl _ _⟩
      case round =>
        obtain ⟨k, v, hkm, hso, rfl, hn, ho, hb⟩ := hrel
        subst hso
        have HN := Lib.hid hn; have HO := Lib.hid ho; have HB := Lib.hid hb
        have HI := Lib.hid (ho.intsAt (by rw [wl_len]; omega))
        obtain ⟨va, vc, hv, _⟩ := HI.out
        rw [wl_len] at hv
        subst hv
        clear hn ho hb
        by_cases hlt : k < m
        · obtain ⟨x, hx⟩ : ∃ x, x = xw p r k := ⟨_, rfl⟩
          have hxr := xw_rng hp1 (r := r) k
          rw [← hx] at hxr
          have hXS : Hid (xw p r (k + 1) = x * r % p) := by show _ = _; rw [xw, hx]
          have hX1 : Hid (wl p r (k + 1) = wl p r k ++ [x - 1]) := by show _ = _; rw [wl, hx]
          have hlt2 : (k : Int) < p - 1 := by have := HMP.out; omega
          have hp0 : ¬ p = 0 := by omega
          have hxr1 : 0 ≤ x * r := Int.mul_nonneg hxr.1 (by omega)
          have hxr2 : x * r ≤ 13 * 13 := Int.mul_le_mul (by omega) (by omega) (by omega) (by omega)
          have hm0 : ((x - 1 : Int) = x - 1) := rfl
          have HCt := Lib.hid (contains_any (x - 1) _ _ wr HI.out)
          have HX := Lib.hid hx
          rw [← hx]
          clear hx hm0
          cases em : mem (wl p r k) (x - 1)
          · have Hm := Lib.hid em
            rw [em] at HCt
            clear em
            have hlen9 : (wl p r k).length < 1000000000 := by rw [wl_len]; omega
            have HLn := Lib.hid hlen9; clear hlen9
            have HO2 := Lib.hid (HO.out.alloc (.cells #[.int .i64 (x - 1)] 3))
            have Hne := Lib.hid (World.cell?_alloc_new wr #[.int .i64 (x - 1)] 3 0)
            have Hbz : Hid (w.heap.size ≤ (wr.alloc (.cells #[.int .i64 (x - 1)] 3)).heap.size) := Nat.le_trans HB.out.size (below_box wr _).size
            go_wp2_with (first
              | (go_at_call 34; refine (HCt.out).mono ?_; rintro e w' ⟨rfl, rfl⟩)
              | (at_builtin; go_must (refine app_own rfl _ _ rfl rfl HO2.out wr.heap.size (x - 1) rfl Hne.out HLn.out Hbz.out ?_; intro v' w1 hown1 hgrow)))
            have HB1 : Hid (Below w.heap.size w w1) := (HB.out.trans (((Below.refl _ _).alloc HB.out.size _).grown hgrow Hbz.out (fun q hq => (HO.out.block q hq).1)))
            have HOn : Hid (Own w1 w.heap.size 3 v' (wl p r (k + 1))) := by rw [hX1.out]; exact hown1
            obtain ⟨va', vc', hv', _⟩ := HOn.out.intsAt (by rw [wl_len]; omega)
            rw [wl_len] at hv'
            subst hv'
            clear hown1 hgrow
            go_roundw
            case rel => exact ⟨k + 1, _, by omega, rfl, by rw [hXS.out], by rw [hX1.out, nodB_snoc, HN.out, Hm.out]; rfl, HOn.out, HB1.out⟩
            case measure => simp [lenW]; omega
          · have Hbad : Hid (nodB (wl p r m) = false) := wl_hit hlt (by rw [← HX.out]; exact em)
            rw [em] at HCt
            clear em
            go_wp2_with (go_at_call 34; refine (HCt.out).mono ?_; rintro e w' ⟨rfl, rfl⟩)
            go_ret2
            exact HM.out _ _ ⟨HB.out, by rw [Hbad.out]; rfl⟩
        · obtain rfl : k = m := by omega
          have hge : ¬ ((k : Int) < p - 1) := by have := HMP.out; omega
          go_wp2_with fail
          go_ret2
          exact HM.out _ _ ⟨HB.out, by rw [HN.out]; exact ⟨_, rfl, HI.out⟩⟩
  · have HM : Hid (∀ e w', (Below w.heap.size w w' ∧ e = .returned (.tuple #[.slice none 0 0, .int .i64 1])) → WelchPost p r w e w') := by
      intro e w' h
      unfold WelchPost
      rw [if_neg hk]; exact h
    unfold wOk at hk
    by_cases hp : p = 3 ∨ p = 5 ∨ p = 7 ∨ p = 11 ∨ p = 13
    · have hch : ((p != 3) = false) ∨ ((p != 3) = true ∧ (p != 5) = false) ∨ ((p != 3) = true ∧ (p != 5) = true ∧ (p != 7) = false) ∨ ((p != 3) = true ∧ (p != 5) = true ∧ (p != 7) = true ∧ (p != 11) = false) ∨ ((p != 3) = true ∧ (p != 5) = true ∧ (p != 7) = true ∧ (p != 11) = true ∧ (p != 13) = false) := by
        rcases hp with rfl | rfl | rfl | rfl | rfl
        · exact .inl rfl
        · exact .inr (.inl ⟨rfl, rfl⟩)
        · exact .inr (.inr (.inl ⟨rfl, rfl, rfl⟩))
        · exact .inr (.inr (.inr (.inl ⟨rfl, rfl, rfl, rfl⟩)))
        · exact .inr (.inr (.inr (.inr ⟨rfl, rfl, rfl, rfl, rfl⟩)))
      have hr : r < 1 ∨ (¬ r < 1 ∧ p ≤ r) := by omega
      clear hp hk
      rcases hch with e1 | ⟨e1, e2⟩ | ⟨e1, e2, e3⟩ | ⟨e1, e2, e3, e4⟩ | ⟨e1, e2, e3, e4, e5⟩
      all_goals
        rcases hr with hr1 | ⟨hr1, hr2⟩
      all_goals
        go_enter Try.func16, Try.ntmps16
        go_wp2_with fail
        go_ret2
        exact HM.out _ _ ⟨Below.refl _ _, rfl⟩
    · have e1 : (p != 3) = true := by simp; omega
      have e2 : (p != 5) = true := by simp; omega
      have e3 : (p != 7) = true := by simp; omega
      have e4 : (p != 11) = true := by simp; omega
      have e5 : (p != 13) = true := by simp; omega
      clear hp hk
      go_enter Try.func16, Try.ntmps16
      go_wp2_with fail
      go_ret2
      exact HM.out _ _ ⟨Below.refl _ _, rfl⟩
end Go.Proofs.Ytnmgambilpoeiaa
