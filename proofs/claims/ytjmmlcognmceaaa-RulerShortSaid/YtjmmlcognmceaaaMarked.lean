/-
  Contracts: the reference's marked, the program's best: the first ruler that goes on. No condition.
-/
import Derived.Test.YtjmmlcognmceaaaApart
import Derived.Test.YtjmmlcognmceaaaClone
namespace Go.Proofs.Ytjmmlcognmceaaa
open Go.RowKit

def MarkPost (o : Option (List Int)) (w : World) (e : Ending) (w' : World) : Prop :=
  Below w.heap.size w w' ∧ match o with
  | some r => ∃ v, e = .returned (.tuple #[v, .bool true]) ∧ IntsAt w' v r
  | none => ∃ v, e = .returned (.tuple #[v, .bool false])
theorem upto_snoc {e x : Int} {l : List Int} (h : Upto e l) (h0 : 0 ≤ x) (h1 : x ≤ e) : Upto e (l ++ [x]) := by
  intro k hk
  rw [List.length_append] at hk
  by_cases e2 : k < l.length
  · have : ix (l ++ [x]) k = ix l k := by unfold ix; rw [List.getD_eq_getElem?_getD, List.getD_eq_getElem?_getD, List.getElem?_append_left e2]
    rw [this]; exact h k e2
  · obtain rfl : k = l.length := by simp at hk; omega
    have : ix (l ++ [x]) l.length = x := by unfold ix; simp
    rw [this]; exact ⟨h0, h1⟩
theorem upto_mono {a b : Int} {l : List Int} (h : Upto a l) (hab : a ≤ b) : Upto b l := fun k hk => by have := h k hk; omega
theorem own_whole {w w1 : World} {v : Value} {xs : List Int} (ho : Own w1 (w.alloc (.cells #[] 3)).heap.size 3 v xs) (hg : World.grownBy (w.alloc (.cells #[] 3)) w1 none) :
    Own w1 w.heap.size 3 v xs ∧ Below w.heap.size w w1 := by
  refine ⟨ho.base (by simp), (below_box w (.cells #[] 3)).trans (below_grown (v := .slice none 0 0) hg (B := w.heap.size) (by intro k hk; cases hk) (by simp))⟩

set_option maxRecDepth 100000 in
set_option maxHeartbeats 1000000 in
theorem marked_any (n : Nat) (e : Int) (hn : n ≤ 7) (he0 : 0 ≤ e) (he : e ≤ 1000) : ∀ (k : Nat) (l : List Int) (v : Value) (w : World), l.length + k = n → 0 < l.length → Upto e l → IntsAt w v l →
    Calls Try.prog 44 #[v, .int .i64 n, .int .i64 e] w (MarkPost (mk e k l) w) := by
  intro k
  induction k with
  | zero =>
    intro l v w hk hp hu h
    have HI := Lib.hid h
    obtain ⟨a, c, rfl, _, _, _, h3⟩ := h
    obtain ⟨b, o, rfl, hb, hc⟩ := h3 0 hp
    have hcell : w.cell? ⟨b, o + (n - 1), none⟩ = some (.int .i64 (lastM l)) := by have := hc (l.length - 1) (by omega); rw [show n - 1 = l.length - 1 by omega]; exact this
    have i1 : (0 : Int) ≤ (n : Int) - 1 := by omega
    have i2 : (n : Int) - 1 < (l.length : Int) := by omega
    have i3 : ((n : Int) - 1).toNat = n - 1 := by omega
    have i4 : IntKind.i64.wrap ((n : Int) - 1) = (n : Int) - 1 := IntWalk.i64_in _ (by omega)
    have hl : (((l.length : Nat) : Int) == (n : Int)) = true := by simp; omega
    have hmk : mk e 0 l = if (lastM l == e) then some l else none := by
      rw [mk]; by_cases h : lastM l = e <;> simp [h]
    have Hmk := Lib.hid hmk
    clear hc h3 hk hmk
    cases em : (lastM l == e)
    all_goals
      rw [em] at Hmk
      go_enter Try.func44, Try.ntmps44
      go_wp2_with fail
      go_quiet (fail)
      go_wp2_with fail
      go_ret2
      rw [Hmk.out]
    · exact ⟨below_D _ _, _, rfl⟩
    · exact ⟨below_D _ _, _, rfl, HI.out.below (below_D _ _)⟩
  | succ k ih =>
    intro l v w hk hp hu h
    have IH := Lib.hid ih; clear ih
    have HI := Lib.hid h
    have HU := Lib.hid hu
    have hlast := hu (l.length - 1) (by omega)
    obtain ⟨a, c, rfl, _, _, _, h3⟩ := h
    obtain ⟨b, o, rfl, hb, hc⟩ := h3 0 hp
    have hcell : w.cell? ⟨b, o + (l.length - 1), none⟩ = some (.int .i64 (lastM l)) := hc (l.length - 1) (by omega)
    have hl : (((l.length : Nat) : Int) == (n : Int)) = false := by simp; omega
    have hl1 : 1 ≤ l.length := hp
    clear hc h3 hu
    rw [mk_succ]
    replace hlast : 0 ≤ lastM l ∧ lastM l ≤ e := hlast
    go_enter Try.func44, Try.ntmps44
    go_wp2_with fail
    clear hcell hl
    go_loopw [8] (fun s wr => ∃ d : Nat, lastM l + d ≤ e ∧ s = .int .i64 (lastM l + 1 + d) ∧ fsome (mkF e k l) d = none ∧ Below w.heap.size w wr) (fun s _ => (e + 1 - intOf s).toNat)
    case atStart => exact ⟨0, by omega, by simp, rfl, Below.refl _ _⟩
    case round =>
      obtain ⟨d, hd, rfl, hn0, hb0⟩ := hrel
      have HN := Lib.hid hn0; have HB := Lib.hid hb0
      clear hn0 hb0
      by_cases hlt : lastM l + 1 + d ≤ e
      · have HI1 := Lib.hid (HI.out.below (belowTrans HB.out (below_box wr (.cells #[] 3))))
        have hl9 : l.length < 1000000000 := by omega
        have HF : Hid (mkF e k l d = if golB (l ++ [lastM l + 1 + d]) then mk e k (l ++ [lastM l + 1 + d]) else none) := rfl
        have HU1 := Lib.hid (upto_snoc HU.out (show 0 ≤ lastM l + 1 + d by omega) hlt)
        have hll : (l ++ [lastM l + 1 + (d : Int)]).length = l.length + 1 := by simp
        have HLL := Lib.hid hll; clear hll
        have HX : Hid (lastM l + 1 + (d : Int) = lastM l + 1 + d) := rfl
        generalize hx : lastM l + 1 + (d : Int) = x at *
        have HXX := Lib.hid hx
        have hx0 : 0 ≤ x := by omega
        clear hx HX
        go_wp2_with (first
          | (at_builtin; refine app_whole rfl _ _ rfl rfl HI1.out rfl hp hl9 ?_; intro v1 w1 hown1 hgrow1; obtain ⟨ho1, hb1⟩ := own_whole hown1 hgrow1; clear hown1 hgrow1; have HO1 := Lib.hid (ho1.alloc (.cells #[.int .i64 x] 3)); have HB1 := Lib.hid (belowTrans HB.out hb1); have Hbz := Lib.hid (Nat.le_trans hb1.size (below_box w1 (.cells #[.int .i64 x] 3)).size); have Hne := Lib.hid (World.cell?_alloc_new w1 #[.int .i64 x] 3 0); clear ho1 hb1)
          | (at_builtin; go_must (refine app_own rfl _ _ rfl rfl HO1.out w1.heap.size x rfl Hne.out hl9 Hbz.out ?_; intro v2 w2 hown2 hgrow2)))
        have hB2 : Below w.heap.size w w2 := (HB1.out.trans (((Below.refl _ _).alloc HB1.out.size _).grown hgrow2 (Nat.le_trans HB1.out.size (below_box w1 _).size) (fun q hq => Nat.le_trans HB.out.size (HO1.out.block q hq).1)))
        have HB2 := Lib.hid hB2
        have HI2 := Lib.hid (hown2.intsAt (by rw [HLL.out]; omega))
        obtain ⟨va, vl, vc, rfl⟩ := hown2.shape
        clear hown2 hgrow2 hB2 Hne Hbz
        have HG := Lib.hid (golomb_any _ _ _ HI2.out (upto_mono HU1.out (by omega)) (by rw [HLL.out]; omega))
        cases eg : golB (l ++ [x])
        · have HF1 : Hid (mkF e k l d = none) := by show _ = _; rw [HF.out, eg]; rfl
          rw [eg] at HG
          clear eg HF
          go_wp2_with fail
          refine (HG.out).mono ?_
          rintro e' w3 ⟨rfl, hb⟩
          have HB3 := Lib.hid (belowTrans HB2.out hb); clear hb
          go_wp2_with fail
          go_roundw
          case rel => exact ⟨d + 1, by have := HXX.out; omega, by rw [← HXX.out]; go_num, by rw [fsome_next HN.out, HF1.out], HB3.out⟩
          case measure => simp [intOf]; omega
        · have HF1 : Hid (mkF e k l d = mk e k (l ++ [x])) := by show _ = _; rw [HF.out, eg]; rfl
          rw [eg] at HG
          clear eg HF
          go_wp2_with fail
          refine (HG.out).mono ?_
          rintro e' w3 ⟨rfl, hb⟩
          have HB3 := Lib.hid (belowTrans HB2.out hb)
          have HI3 := Lib.hid (HI2.out.below hb); clear hb
          have HC := Lib.hid (IH.out (l ++ [x]) _ w3 (by rw [HLL.out]; omega) (by rw [HLL.out]; omega) HU1.out HI3.out)
          cases em : mk e k (l ++ [x]) with
          | none =>
            rw [em] at HC HF1
            go_wp2_with fail
            refine (HC.out).mono ?_
            intro e' w4 hp4
            obtain ⟨hb, v4, rfl⟩ := hp4
            have HB4 := Lib.hid (belowTrans HB3.out hb); clear hb
            go_wp2_with fail
            go_roundw
            case rel => exact ⟨d + 1, by have := HXX.out; omega, by rw [← HXX.out]; go_num, by rw [fsome_next HN.out, HF1.out], HB4.out⟩
            case measure => simp [intOf]; omega
          | some r =>
            rw [em] at HC HF1
            go_wp2_with fail
            refine (HC.out).mono ?_
            intro e' w4 hp4
            obtain ⟨hb, v4, rfl, hI4⟩ := hp4
            have HB4 := Lib.hid (belowTrans HB3.out hb)
            have HI4 := Lib.hid hI4; clear hb hI4
            go_wp2_with fail
            go_ret2
            rw [fsome_hit HN.out HF1.out (show d < (e - lastM l).toNat by have := HXX.out; omega)]
            exact ⟨HB4.out, _, rfl, HI4.out⟩
      · have hd2 : d = (e - lastM l).toNat := by omega
        rw [hd2] at HN
        have HN2 := Lib.hid HN.out
        clear hd2
        go_wp2_with fail
        go_ret2
        rw [HN2.out]
        exact ⟨HB.out, _, rfl⟩
end Go.Proofs.Ytjmmlcognmceaaa
