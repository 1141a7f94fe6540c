/-
  Contract: the reference's PermOfRank. No condition.
-/
import Derived.Test.YtkmfhnjadpdkeaaFact
import Derived.Test.YtkmfhnjadpdkeaaOwn
import Derived.Test.YtkmfhnjadpdkeaaTab
import Derived.Test.YtkmfhnjadpdkeaaTrans
import Derived.Deep.DeepMust
namespace Go.Proofs.Ytkmfhnjadpdkeaa
open Go.RowKit

/-- What stands in memory behind i numbers; U: the block of flags. -/
def RankRel (n k0 : Nat) (w wr : World) (v : Value) (i k : Nat) : Prop :=
  ∃ out : List Int, out.length = i ∧ i ≤ n ∧ k < fct (n - i) ∧ unrank n (n - i) out k = permOf n k0 ∧ cntU out n = n - i ∧
    Own wr (w.heap.size + 1) 3 v out ∧ Flags wr w.heap.size n (fun j => mem out (j : Int)) ∧ Below w.heap.size w wr ∧ w.heap.size < wr.heap.size

theorem rank_step {n k0 i l k' x : Nat} {w wr w1 : World} {v v' : Value} {out : List Int} (hl : i + l + 1 = n) (hlen : out.length = i) (hx : x < n) (hm : k' % fct l < fct l)
    (hn : unrank n l (out ++ [(x : Int)]) (k' % fct l) = permOf n k0) (hc : cntU (out ++ [(x : Int)]) n = l)
    (ho : Own wr (w.heap.size + 1) 3 v out) (hf : Flags wr w.heap.size n (fun j => mem out (j : Int))) (hb : Below w.heap.size w wr) (hz : w.heap.size < wr.heap.size)
    (ho1 : Own w1 (w.heap.size + 1) 3 v' (out ++ [(x : Int)])) (hg : World.grownBy ((wr.setCell ⟨w.heap.size, x, none⟩ (.bool true)).alloc (.cells #[.int .i64 x] 3)) w1 v.ownBlock) :
    RankRel n k0 w w1 v' (i + 1) (k' % fct l) := by
  have e : n - (i + 1) = l := by omega
  have hsz := hg.size
  have hs2 : ((wr.setCell ⟨w.heap.size, x, none⟩ (.bool true)).alloc (.cells #[.int .i64 x] 3)).heap.size = wr.heap.size + 1 := by simp
  have hown : ∀ k, v.ownBlock = some k → w.heap.size + 1 ≤ k := fun k hk => (ho.block k hk).1
  refine ⟨out ++ [(x : Int)], by simp [hlen], by omega, by rw [e]; exact hm, by rw [e]; exact hn, by rw [e]; exact hc, ho1, ?_, ?_, by omega⟩
  · refine Arr.kept (w := (wr.setCell ⟨w.heap.size, x, none⟩ (.bool true)).alloc (.cells #[.int .i64 x] 3)) ?_ (fun o' => (far_cell hg (base := w.heap.size + 1) hown (by omega) (by omega)).1) (fun o' => (far_cell hg (base := w.heap.size + 1) hown (by omega) (by omega)).2) hsz
    exact Arr.alloc (Arr.congr (Flags.set hf hx) (fun j _ => by show Value.bool (mem out (j : Int) || x == j) = Value.bool (mem (out ++ [(x : Int)]) (j : Int)); rw [mem_snocN])) _
  · exact ((hb.setCell (Nat.le_refl _) _).alloc (by rw [World.size_setCell]; omega) _).grown hg (by rw [hs2]; omega) (fun k hk => by have := hown k hk; omega)

set_option maxRecDepth 100000 in
set_option maxHeartbeats 1000000 in
theorem rank_any (n k : Nat) (w : World) (hn1 : 1 ≤ n) (hn : n ≤ 12) (hk : k < fct n) :
    Calls Try.prog 55 #[.int .i64 n, .int .i64 k] w fun e w' => ∃ v, e = .returned (.tuple #[v, .int .i64 0]) ∧ Own w' w.heap.size 3 v (permOf n k) ∧ Below w.heap.size w w' := by
  obtain ⟨b0, hb0, hbz, hbs, hbb⟩ := info_parts info_bool
  obtain ⟨i0, hi0, hz0, hz1, hz2⟩ := info_parts info_int
  have hfn := fct_le hn
  have d1 : decide ((n : Int) < 0) = false := by simp
  have d2 : decide ((12 : Int) < (n : Int)) = false := by simp; omega
  have d3 : decide ((k : Int) < 0) = false := by simp
  have d4 : decide (((fct n : Nat) : Int) ≤ (k : Int)) = false := by simp; omega
  go_enter Try.func55, Try.ntmps55
  go_wp2_with fail
  refine (fact_any n _ hn).mono ?_
  rintro e w1 ⟨rfl, rfl⟩
  go_wp2_with (at_make; go_must (refine wpList_make_full _ rfl _ _ _ rfl w.heap.size 4 b0 _ 1 Try.underlying68 hb0 hbz hbs _ _ _ _ n rfl rfl rfl rfl (by rw [hbb]; omega) (by unfold maxLen; omega) (Nat.le_refl _) ?_; intro w2 hown2 hgrow2))
  have hB2 := below_grown (v := .slice none 0 0) hgrow2 (B := w.heap.size) (by intro k hk; cases hk) (Nat.le_refl _)
  have hF2 := flags_of_made hown2
  have HR0 : Hid (RankRel n k w w2 (.slice none 0 0) 0 k) := by
    refine ⟨[], rfl, by omega, by simpa using hk, by simp [permOf], by simpa using cntU_nil n, own_nil _ _ _, hF2.congr fun j _ => rfl, hB2, hF2.lt⟩
  clear hB2 hF2 hown2 hgrow2 d1 d2 d3 d4
  go_loopw [1, 7, 9] (fun sk so si wr => ∃ (i k' : Nat) (v : Value), sk = .int .i64 k' ∧ so = v ∧ si = .int .i64 i ∧ RankRel n k w wr v i k') (fun _ _ si _ => n - (intOf si).toNat)
  case atStart => exact ⟨0, k, _, rfl, rfl, rfl, HR0.out⟩
  case round =>
    obtain ⟨i, k', v, rfl, hso, rfl, out, hlen, hin, hk', hun, hcn, ho, hf, hb, hz⟩ := hrel
    subst hso
    have HO := Lib.hid ho; have HF := Lib.hid hf; have HB := Lib.hid hb
    clear HR0 ho hf hb
    by_cases hlt : i < n
    · obtain ⟨l, hl⟩ : ∃ l, i + l + 1 = n := ⟨n - i - 1, by omega⟩
      have e1 : n - i = l + 1 := by omega
      rw [e1] at hk' hun hcn
      clear e1
      have hfl := fct_le (n := l) (by omega)
      have hfp := fct_pos l
      have hk3 : k' ≤ 9223372036854775807 := by
        have := fct_le (n := l + 1) (by omega); omega
      obtain ⟨q, hq⟩ : ∃ q, q = k' / fct l := ⟨_, rfl⟩
      have hql : q < l + 1 := by rw [hq]; exact (Nat.div_lt_iff_lt_mul hfp).2 (by rw [fct, Nat.mul_comm] at hk'; rw [Nat.mul_comm]; exact hk')
      obtain ⟨hp1, hp2, hp3⟩ := pickU_spec out q n (by omega)
      obtain ⟨p, hp⟩ : ∃ p, p = pickU out q n := ⟨_, rfl⟩
      rw [← hp] at hp1 hp2 hp3
      have hql2 : q ≤ 12 := by omega
      have hf0 : ¬ fct l = 0 := by omega
      have Hdv : Hid (Value.int .i64 (wrap64 ((k' : Int) / ((fct l : Nat) : Int))) = Value.int .i64 (q : Int)) := by
        show _ = _
        rw [hq]; exact int_val (wrap_dv hk3)
      have Hmd : Hid (((k' : Int) % ((fct l : Nat) : Int)) = ((k' % fct l : Nat) : Int)) := (Int.natCast_emod _ _).symm
      have Hnext : Hid (unrank n l (out ++ [(p : Int)]) (k' % fct l) = permOf n k) := by
        show _ = _
        rw [← hun, unrank, hp, hq]
      have Hcn : Hid (cntU (out ++ [(p : Int)]) n = l) := by
        show _ = _
        have := cntU_snoc out p hp2 n
        rw [if_pos hp1] at this; omega
      have Hp2 := Lib.hid hp2; have Hp3 := Lib.hid hp3
      have Hmod : Hid (k' % fct l < fct l) := Nat.mod_lt _ hfp
      have HC : Hid (∀ w', Calls Try.prog 54 #[.int .i64 ((n : Int) - 1 - i)] w' fun e w'' => e = .returned (.int .i64 (fct l)) ∧ w' = w'') := fun w' => by
        have := fact_int ((n : Int) - 1 - i) w' (by omega) (by omega)
        rw [show ((n : Int) - 1 - i).toNat = l by omega] at this
        exact this
      clear hp2 hp3 hq hp hun hcn hk'
      go_wp2_with fail
      refine (HC.out _).mono ?_
      rintro e w' ⟨rfl, rfl⟩
      go_wp2_with fail
      clear HC
      go_loopw [7, 10, 11] (fun so ss sx wr' => ∃ x : Nat, x ≤ p ∧ so = u7 ∧ ss = .int .i64 ((q : Int) - (cntU out x : Nat)) ∧ sx = .int .i64 x ∧ wr' = wr) (fun _ _ sx _ => p + 1 - (intOf sx).toNat)
      case atStart => exact ⟨0, by omega, rfl, by rw [Hdv.out]; exact int_val (by simp [cntU]), rfl, rfl⟩
      case round =>
        obtain ⟨x, hx, hso, rfl, rfl, rfl⟩ := hrel
        subst hso
        have hxn : x < n := by omega
        have hcell : wr.cell? ⟨w.heap.size, x, none⟩ = some (.bool (mem out (x : Int))) := Arr.cell HF.out hxn
        have hfree : wr.frozen? ⟨w.heap.size, x, none⟩ = false := Arr.free HF.out hxn
        have hcx : cntU out x ≤ q := by rw [← Hp3.out]; exact cntU_mono out hx
        cases hm : mem out (x : Int)
        · rw [hm] at hcell
          by_cases hxp : x = p
          · subst hxp
            have hs0 : ((q : Int) - (cntU out x : Nat) == 0) = true := by rw [Hp3.out]; simp
            have HO2 : Hid (Own ((wr.setCell ⟨w.heap.size, x, none⟩ (.bool true)).alloc (.cells #[.int .i64 x] 3)) (w.heap.size + 1) 3 u7 out) := (HO.out.setFar (by simp) _).alloc _
            have hol : out.length < 1000000000 := by omega
            have hzb : w.heap.size + 1 ≤ ((wr.setCell ⟨w.heap.size, x, none⟩ (.bool true)).alloc (.cells #[.int .i64 x] 3)).heap.size := by simp; omega
            have hne : ((wr.setCell ⟨w.heap.size, x, none⟩ (.bool true)).alloc (.cells #[.int .i64 x] 3)).cell? ⟨wr.heap.size, 0, none⟩ = some (.int .i64 x) := by
              have := World.cell?_alloc_new (wr.setCell ⟨w.heap.size, x, none⟩ (.bool true)) #[.int .i64 x] 3 0
              rw [World.size_setCell] at this; exact this
            have Hne := Lib.hid hne; have Hzb := Lib.hid hzb
            clear hne hzb
            go_wp2_with (at_builtin; refine app_own rfl _ _ rfl rfl HO2.out wr.heap.size x rfl Hne.out hol Hzb.out ?_; intro v' w1 hown1 hgrow)
            have HN := Lib.hid (rank_step hl hlen hxn Hmod.out Hnext.out Hcn.out HO.out HF.out HB.out hz hown1 hgrow)
            clear hown1 hgrow
            go_roundw
            case rel => exact ⟨i + 1, k' % fct l, _, by rw [Hmd.out], rfl, by go_num, HN.out⟩
            case measure => simp [intOf]; omega
          · have hlt2 : cntU out x < q := by rw [← Hp3.out]; exact cntU_lt out (by omega) hm
            have hs0 : ((q : Int) - (cntU out x : Nat) == 0) = false := by simp; omega
            have Hm := Lib.hid hm; clear hm
            go_wp2_with fail
            go_roundw
            case rel => exact ⟨x + 1, by omega, rfl, int_val (by rw [cntU, Hm.out]; simp; omega), by go_num, trivial⟩
            case measure => simp [intOf]; omega
        · rw [hm] at hcell
          have hxp : x ≠ p := by intro e; rw [e, Hp2.out] at hm; cases hm
          have Hm := Lib.hid hm; clear hm
          go_wp2_with fail
          go_roundw
          case rel => exact ⟨x + 1, by omega, rfl, int_val (by rw [cntU, Hm.out]; simp), by go_num, trivial⟩
          case measure => simp [intOf]; omega
    · obtain rfl : i = n := by omega
      have e0 : i - i = 0 := by omega
      rw [e0] at hun
      have Hun := Lib.hid hun
      clear hun hcn hk' e0
      go_wp2_with fail
      go_ret2
      exact ⟨_, rfl, by rw [← Hun.out]; exact HO.out.base (by omega), HB.out⟩

end Go.Proofs.Ytkmfhnjadpdkeaa
