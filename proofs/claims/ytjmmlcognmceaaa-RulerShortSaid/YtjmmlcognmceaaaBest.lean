/-
  Contract: the program's best: the first ruler that goes on. No condition.
-/
import Derived.Test.YtjmmlcognmceaaaMarked
namespace Go.Proofs.Ytjmmlcognmceaaa
open Go.RowKit

/-- One mark left: only the end is tried. -/
theorem skip_one {e : Int} {l : List Int} {d : Nat} (h : lastM l + 1 + d ≤ e) : fsome (mkF e 0 l) d = none :=
  fsome_none _ fun k hk => by
    unfold mkF
    cases golB (l ++ [lastM l + 1 + k])
    · rfl
    · show mk e 0 _ = none
      rw [mk, lastM_snoc, if_neg (by omega)]

set_option maxRecDepth 100000 in
set_option maxHeartbeats 1000000 in
theorem best_any (n : Nat) (e : Int) (hn : n ≤ 7) (he0 : 0 ≤ e) (he : e ≤ 1000) : ∀ (k : Nat) (l : List Int) (v : Value) (w : World), l.length + k = n → 0 < l.length → Upto e l → IntsAt w v l →
    Calls Try.prog 43 #[v, .int .i64 n, .int .i64 e] w (MarkPost (mk e k l) w) := by
  intro k
  induction k with
  | zero =>
    intro l v w hk hp hu h
    have HI := Lib.hid h
    obtain ⟨a, c, rfl, _, _, _, h3⟩ := h
    obtain ⟨b, o, rfl, hb, hc⟩ := h3 0 hp
    have hcell : w.cell? ⟨b, o + (n - 1), none⟩ = some (.int .i64 (lastM l)) := by have := hc (l.length - 1) (by omega); rw [show n - 1 = l.length - 1 by omega]; exact this
    have i1 : (0 : Int) ≤ (n : Int) - 1 := by omega
    have i2 : (n : Int) - 1 < (l.length : Int) := by omega
    have i3 : ((n : Int) - 1).toNat = n - 1 := by omega
    have i4 : IntKind.i64.wrap ((n : Int) - 1) = (n : Int) - 1 := IntWalk.i64_in _ (by omega)
    have hl : ((n : Int) - ((l.length : Nat) : Int)) = 0 := by omega
    have hmk : mk e 0 l = if (lastM l == e) then some l else none := by
      rw [mk]; by_cases h : lastM l = e <;> simp [h]
    have Hmk := Lib.hid hmk
    clear hc h3 hk hmk
    cases em : (lastM l == e)
    all_goals
      rw [em] at Hmk
      go_enter Try.func43, Try.ntmps43
      go_wp2_with fail
      clear hl
      go_quiet (fail)
      go_wp2_with fail
      go_ret2
      rw [Hmk.out]
    · exact ⟨below_D _ _, _, rfl⟩
    · exact ⟨below_D _ _, _, rfl, HI.out.below (below_D _ _)⟩
  | succ k ih =>
    intro l v w hk hp hu h
    have IH := Lib.hid ih; clear ih
    have HI := Lib.hid h
    have HU := Lib.hid hu
    have hlast := hu (l.length - 1) (by omega)
    obtain ⟨a, c, rfl, _, _, _, h3⟩ := h
    obtain ⟨b, o, rfl, hb, hc⟩ := h3 0 hp
    have hcell : w.cell? ⟨b, o + (l.length - 1), none⟩ = some (.int .i64 (lastM l)) := hc (l.length - 1) (by omega)
    have hleft : ((n : Int) - ((l.length : Nat) : Int)) = (k : Int) + 1 := by omega
    have hl0 : (((k : Nat) : Int) + 1 == 0) = false := by simp; omega
    have hl1 : 1 ≤ l.length := hp
    have hk7 : k ≤ 7 := by omega
    clear hc h3 hu
    rw [mk_room]
    replace hlast : 0 ≤ lastM l ∧ lastM l ≤ e := hlast
    go_enter Try.func43, Try.ntmps43
    go_wp2_with fail
    clear hcell hleft hl0
    go_loopw [9] (fun s wr => ∃ d : Nat, (d = 0 ∨ lastM l + d ≤ e - k) ∧ s = .int .i64 (lastM l + 1 + d) ∧ fsome (mkF e k l) d = none ∧ Below w.heap.size w wr) (fun s _ => (e + 1 - intOf s).toNat)
    case atStart => exact ⟨0, .inl rfl, by simp, rfl, Below.refl _ _⟩
    case round =>
      obtain ⟨d, hd, rfl, hn0, hb0⟩ := hrel
      have HN := Lib.hid hn0; have HB := Lib.hid hb0
      have HD := Lib.hid hd
      have hd1 : lastM l + d ≤ e := by rcases hd with rfl | h <;> omega
      clear hn0 hb0 hd
      by_cases hlt : lastM l + 1 + d ≤ e - k
      · obtain ⟨d', hdd, hd'1, hd'2, hn'⟩ : ∃ d' : Nat, d ≤ d' ∧ lastM l + 1 + d' ≤ e - k ∧ (k = 0 → lastM l + 1 + (d' : Int) = e) ∧ (fsome (mkF e k l) d' = none ∧ (k ≠ 0 → d' = d)) := by
          by_cases hk0 : k = 0
          · subst hk0
            exact ⟨(e - lastM l - 1).toNat, by omega, by omega, fun _ => by omega, skip_one (by omega), fun h => absurd rfl h⟩
          · exact ⟨d, Nat.le_refl _, hlt, fun h => absurd h hk0, HN.out, fun _ => rfl⟩
        have HN1 := Lib.hid hn'.1
        have HDD := Lib.hid hn'.2
        have HD2 := Lib.hid hd'2
        clear hn' hd'2
        have hp9 := hp
        have hl9 : l.length < 1000000000 := by omega
        have HF : Hid (mkF e k l d' = if golB (l ++ [lastM l + 1 + d']) then mk e k (l ++ [lastM l + 1 + d']) else none) := rfl
        have HU1 := Lib.hid (upto_snoc HU.out (show 0 ≤ lastM l + 1 + d' by omega) (show lastM l + 1 + d' ≤ e by omega))
        have HLL : Hid ((l ++ [lastM l + 1 + (d' : Int)]).length = l.length + 1) := by show _ = _; simp
        obtain ⟨x, hx⟩ : ∃ x, x = lastM l + 1 + (d' : Int) := ⟨_, rfl⟩
        rw [← hx] at HF HU1 HLL
        have HXX := Lib.hid hx
        have hx0 : 0 ≤ x := by omega
        have hxe : x ≤ e - k := by omega
        have Hslot : Hid ((k = 0 → x = e) ∧ (k ≠ 0 → lastM l + 1 + (d : Int) = x)) := by
          refine ⟨fun h => ?_, fun h => ?_⟩
          · have := HD2.out h; omega
          · have := HDD.out h; rw [hx, this]
        clear hx
        have HCl := Lib.hid (clone_any _ l wr (HI.out.below HB.out) hp hl9)
        have hcase : ((((k : Nat) : Int) + 1 == 1) = true ∧ x = e) ∨ ((((k : Nat) : Int) + 1 == 1) = false ∧ lastM l + 1 + (d : Int) = x) := by
          by_cases hk0 : k = 0
          · exact .inl ⟨by simp; omega, Hslot.out.1 hk0⟩
          · exact .inr ⟨by simp; omega, Hslot.out.2 hk0⟩
        clear Hslot HDD HD2
        obtain ⟨om, hom⟩ : ∃ om, mk e k (l ++ [x]) = om := ⟨_, rfl⟩
        have HOM := Lib.hid hom; clear hom
        have HNo : Hid ((golB (l ++ [x]) = false ∨ om = none) → fsome (mkF e k l) (d' + 1) = none) := by
          intro hh
          rw [fsome_next HN1.out, HF.out, HOM.out]
          rcases hh with hh | hh
          · rw [hh]; rfl
          · rw [hh]; cases golB (l ++ [x]) <;> rfl
        have HYes : Hid (∀ r, golB (l ++ [x]) = true → om = some r → fsome (mkF e k l) (e - k - lastM l).toNat = some r) := by
          intro r h1 h2
          have := HXX.out
          exact fsome_hit HN1.out (by rw [HF.out, h1, HOM.out]; exact h2) (by omega)
        clear HF HN1
        rcases hcase with ⟨hone, hxv⟩ | ⟨hone, hxv⟩
        all_goals
          first | (obtain rfl : x = e := hxv) | skip
          go_wp2_with fail
          refine (HCl.out).mono ?_
          rintro e' w1 ⟨v1, rfl, ho1, hb1⟩
          have HO1 := Lib.hid (ho1.alloc (.cells #[.int .i64 x] 3))
          have HB1 := Lib.hid (belowTrans HB.out hb1)
          have Hbz := Lib.hid (Nat.le_trans hb1.size (below_box w1 (.cells #[.int .i64 x] 3)).size)
          have Hne := Lib.hid (World.cell?_alloc_new w1 #[.int .i64 x] 3 0)
          clear ho1 hb1 HCl
          go_wp2_with (at_builtin; go_must (refine app_own rfl _ _ rfl rfl HO1.out w1.heap.size x rfl Hne.out hl9 Hbz.out ?_; intro v2 w2 hown2 hgrow2))
          have hB2 : Below w.heap.size w w2 := (HB1.out.trans (((Below.refl _ _).alloc HB1.out.size _).grown hgrow2 (Nat.le_trans HB1.out.size (below_box w1 _).size) (fun q hq => Nat.le_trans HB.out.size (HO1.out.block q hq).1)))
          have HB2 := Lib.hid hB2
          have HI2 := Lib.hid (hown2.intsAt (by rw [HLL.out]; omega))
          obtain ⟨va, vl, vc, rfl⟩ := hown2.shape
          clear hown2 hgrow2 hB2 Hne Hbz hone
          have HG := Lib.hid (apart_any _ _ _ HI2.out (upto_mono HU1.out (by omega)) (by rw [HLL.out]; omega))
          cases eg : golB (l ++ [x])
          · have HNx := Lib.hid (HNo.out (.inl eg))
            rw [eg] at HG
            clear eg
            go_wp2_with fail
            refine (HG.out).mono ?_
            rintro e' w3 ⟨rfl, hb⟩
            have HB3 := Lib.hid (belowTrans HB2.out hb); clear hb
            go_wp2_with fail
            go_roundw
            case rel => exact ⟨d' + 1, .inr (by have := HXX.out; omega), by have := HXX.out; rw [show lastM l + 1 + ((d' + 1 : Nat) : Int) = x + 1 by omega], HNx.out, HB3.out⟩
            case measure => simp [intOf]; omega
          · have HYs := Lib.hid (fun r => HYes.out r eg)
            rw [eg] at HG
            clear eg
            go_wp2_with fail
            refine (HG.out).mono ?_
            rintro e' w3 ⟨rfl, hb⟩
            have HB3 := Lib.hid (belowTrans HB2.out hb)
            have HI3 := Lib.hid (HI2.out.below hb); clear hb
            have HC := Lib.hid (IH.out (l ++ [x]) _ w3 (by rw [HLL.out]; omega) (by rw [HLL.out]; omega) HU1.out HI3.out)
            rw [HOM.out] at HC
            clear HOM
            cases om with
            | none =>
              go_wp2_with fail
              refine (HC.out).mono ?_
              intro e' w4 hp4
              obtain ⟨hb, v4, rfl⟩ := hp4
              have HB4 := Lib.hid (belowTrans HB3.out hb); clear hb
              go_wp2_with fail
              go_roundw
              case rel => exact ⟨d' + 1, .inr (by have := HXX.out; omega), by have := HXX.out; rw [show lastM l + 1 + ((d' + 1 : Nat) : Int) = x + 1 by omega], HNo.out (.inr (by trivial)), HB4.out⟩
              case measure => simp [intOf]; omega
            | some r =>
              go_wp2_with fail
              refine (HC.out).mono ?_
              intro e' w4 hp4
              obtain ⟨hb, v4, rfl, hI4⟩ := hp4
              have HB4 := Lib.hid (belowTrans HB3.out hb)
              have HI4 := Lib.hid hI4; clear hb hI4
              go_wp2_with fail
              go_ret2
              rw [HYs.out r rfl]
              exact ⟨HB4.out, _, rfl, HI4.out⟩
      · have hd2 : d = (e - k - lastM l).toNat := by rcases HD.out with rfl | h <;> omega
        rw [hd2] at HN
        have HN2 := Lib.hid HN.out
        clear hd2
        go_wp2_with fail
        go_ret2
        rw [HN2.out]
        exact ⟨HB.out, _, rfl⟩
end Go.Proofs.Ytjmmlcognmceaaa
