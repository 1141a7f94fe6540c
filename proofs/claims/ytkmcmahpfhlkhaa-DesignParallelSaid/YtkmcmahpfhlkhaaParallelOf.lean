/-
  Contract: the reference's ParallelOf. No condition.
-/
import Derived.Test.YtkmcmahpfhlkhaaParOfLaw
import Derived.Test.YtkmcmahpfhlkhaaClone
namespace Go.Proofs.Ytkmcmahpfhlkhaa
open Go.RowKit

/-- Places as ints. -/
def natL (r : List Nat) : List Int := r.map fun i : Nat => (i : Int)
def ParPost (n : Nat) (xss : List (List Int)) (w : World) (e : Ending) (w' : World) : Prop :=
  match par (blkS xss) xss.length xss.length (fullS n) with
  | some r => ∃ v, e = .returned (.tuple #[v, .int .i64 0]) ∧ IntsAt w' v (natL r) ∧ Below w.heap.size w w'
  | none => e = .returned (.tuple #[.slice none 0 0, .int .i64 4]) ∧ Below w.heap.size w w'
/-- What is so behind k blocks: o was taken, S is left. -/
structure ParIn (n : Nat) (xss : List (List Int)) (k : Nat) (o : List Int) (S : Nat) : Prop where
  can : canN xss n o o.length = some S
  rng : ∀ i, i < o.length → 0 ≤ ix o i ∧ ix o i < k
  few : o.length ≤ k
  all : ∃ r, par (blkS xss) xss.length (xss.length - k) S = some r ∧ (par (blkS xss) xss.length xss.length (fullS n)).map natL = some (o ++ natL r)
theorem ParIn.start {n : Nat} {xss : List (List Int)} (h : (par (blkS xss) xss.length xss.length (fullS n)).isSome = true) : ParIn n xss 0 [] (fullS n) := by
  obtain ⟨r, hr⟩ := Option.isSome_iff_exists.1 h
  exact ⟨rfl, fun i hi => absurd hi (Nat.not_lt_zero _), Nat.le_refl _, r, hr, by rw [hr]; rfl⟩
theorem ParIn.pass {n : Nat} {xss : List (List Int)} {k : Nat} {o : List Int} {S : Nat} (h : ParIn n xss k o S) (hk : k < xss.length) (hS : S ≠ 0) (hb : blkS xss k = 0 ∨ dn (blkS xss k) S ≠ 0 ∨ par (blkS xss) xss.length (xss.length - (k + 1)) (dn S (blkS xss k)) = none) : ParIn n xss (k + 1) o S := by
  obtain ⟨r, h1, h2⟩ := h.all
  exact ⟨h.can, fun i hi => by have := h.rng i hi; omega, by have := h.few; omega, r, by rw [← par_pass hk hS hb]; exact h1, h2⟩
theorem ParIn.take {n : Nat} {xss : List (List Int)} {k : Nat} {o : List Int} {S : Nat} (h : ParIn n xss k o S) (hk : k < xss.length) (hS : S ≠ 0) (h0 : blkS xss k ≠ 0) (hs : dn (blkS xss k) S = 0) (hp : (par (blkS xss) xss.length (xss.length - (k + 1)) (dn S (blkS xss k))).isSome = true) :
    ParIn n xss (k + 1) (o ++ [(k : Int)]) (dn S (blkS xss k)) := by
  obtain ⟨r, h1, h2⟩ := h.all
  obtain ⟨l, hl⟩ := Option.isSome_iff_exists.1 hp
  rw [par_take hk hS h0 hs hl] at h1
  injection h1 with h1
  subst h1
  refine ⟨by rw [canN_snoc h.can, if_pos hs], fun i hi => ?_, by have := h.few; simp; omega, l, hl, by rw [h2]; simp [natL]⟩
  rw [List.length_append, List.length_singleton] at hi
  by_cases e : i = o.length
  · subst e
    have : ix (o ++ [(k : Int)]) o.length = (k : Int) := by unfold ix; simp
    rw [this]; omega
  · have : ix (o ++ [(k : Int)]) i = ix o i := by unfold ix; rw [List.getD_eq_getElem?_getD, List.getD_eq_getElem?_getD, List.getElem?_append_left (by omega)]
    have := h.rng i (by omega)
    omega
theorem ParIn.done {n : Nat} {xss : List (List Int)} {k : Nat} {o : List Int} {S : Nat} (h : ParIn n xss k o S) (hS : S = 0) : (par (blkS xss) xss.length xss.length (fullS n)).map natL = some o := by
  obtain ⟨r, h1, h2⟩ := h.all
  subst hS
  rw [par_done] at h1
  injection h1 with h1
  subst h1
  rw [h2]; simp [natL]
theorem ParIn.zero {n : Nat} {xss : List (List Int)} {o : List Int} {S : Nat} (h : ParIn n xss xss.length o S) : S = 0 := by
  obtain ⟨r, h1, _⟩ := h.all
  rw [Nat.sub_self] at h1
  refine Classical.byContradiction fun hS => ?_
  rw [par_end hS] at h1; cases h1
theorem intsAt_empty (w : World) (p : Addr) : IntsAt w (.slice (some p) 0 0) [] := ⟨some p, 0, rfl, Nat.le_refl _, by omega, (fun h => by cases h), fun i hi => absurd hi (Nat.not_lt_zero _)⟩
theorem le_boxP {n : Nat} {w : World} (h : n ≤ w.heap.size) (o : Obj) : n ≤ (w.alloc o).heap.size := by simp; omega
theorem canB_snoc {xss : List (List Int)} {n k S : Nat} {o : List Int} (h : canN xss n o o.length = some S) :
    canB xss n (k + 1) (o ++ [(k : Int)]) = (decide (dn (blkS xss k) S = 0) && (par (blkS xss) xss.length (xss.length - (k + 1)) (dn S (blkS xss k))).isSome) := by
  have h2 := canN_snoc (k := k) h
  by_cases hs : dn (blkS xss k) S = 0
  · rw [if_pos hs] at h2
    rw [canB_some h2, decide_eq_true hs, Bool.true_and]
  · rw [if_neg hs] at h2
    rw [canB_none h2, decide_eq_false hs, Bool.false_and]
theorem parPost_of {n : Nat} {xss : List (List Int)} {w w' : World} {o : List Int} {v : Value} (h : (par (blkS xss) xss.length xss.length (fullS n)).map natL = some o) (hI : IntsAt w' v o) (hb : Below w.heap.size w w') : ParPost n xss w (.returned (.tuple #[v, .int .i64 0])) w' := by
  unfold ParPost
  cases e : par (blkS xss) xss.length xss.length (fullS n) with
  | none => rw [e] at h; cases h
  | some r =>
    rw [e] at h
    injection h with h
    exact ⟨v, rfl, by rw [h]; exact hI, hb⟩
theorem parPost_no {n : Nat} {xss : List (List Int)} {w w' : World} (h : (par (blkS xss) xss.length xss.length (fullS n)).isSome = false) (hb : Below w.heap.size w w') : ParPost n xss w (.returned (.tuple #[.slice none 0 0, .int .i64 4])) w' := by
  unfold ParPost
  cases e : par (blkS xss) xss.length xss.length (fullS n) with
  | none => exact ⟨rfl, hb⟩
  | some r => rw [e] at h; cases h

set_option maxRecDepth 100000 in
set_option maxHeartbeats 4000000 in
theorem parallelOf_any (n : Nat) (v : Value) (xss : List (List Int)) (w : World) (h : RowsAt w v xss) (hD : IsDes n xss) :
    Calls Try.prog 14 #[.agg #[.int .i64 n, v]] w (ParPost n xss w) := by
  have hn40 : n ≤ 40 := by have := hD.hi; omega
  have hn1 : 1 ≤ n := by have := hD.lo; omega
  have HD := Lib.hid hD
  have HH := Lib.hid h
  have HBx := Lib.hid (below_box w (.cells #[.int .i64 n, v] 24))
  have HA1 := Lib.hid (pair_new w (.int .i64 n) v 24 _ rfl)
  have hf200 := hD.few
  obtain ⟨a, c, V, rfl, q1, q2, _, q3⟩ := h
  have HX := Lib.hid q3
  have HC0 := Lib.hid (fun W hW => canCut_any n 0 (.slice a xss.length c) (.slice none 0 0) xss [] W (HH.out.below hW) (intsAt_nil _) hD (by omega) (by simp) (fun i hi => absurd hi (Nat.not_lt_zero _)))
  have HCn : Hid (∀ k o u W, Below w.heap.size w W → IntsAt W u o → k ≤ xss.length → o.length ≤ 200 → (∀ i, i < o.length → 0 ≤ ix o i ∧ ix o i < xss.length) → Calls Try.prog 33 #[.agg #[.int .i64 n, .slice a xss.length c], .int .i64 (k : Nat), u] W fun e w' => e = .returned (.bool (canB xss n k o)) ∧ Below W.heap.size W w') :=
    fun k o u W hW hu hk ho hr => canCut_any n k _ u xss o W (HH.out.below hW) hu hD hk ho hr
  have hc0 : canB xss n 0 [] = (par (blkS xss) xss.length xss.length (fullS n)).isSome := canB_some rfl
  rw [hc0] at HC0
  clear hD q3 hc0
  cases hP : (par (blkS xss) xss.length xss.length (fullS n)).isSome
  · have HP := Lib.hid hP
    rw [hP] at HC0
    clear hP
    go_enter Try.func14, Try.ntmps14
    go_wp2_with fail
    refine (HC0.out _ HBx.out).mono ?_
    rintro e w1 ⟨rfl, hb⟩
    have HB1 := Lib.hid (belowTrans HBx.out hb)
    clear hb
    go_wp2_with fail
    go_ret2
    exact parPost_no HP.out HB1.out
  · have HP0 := Lib.hid (ParIn.start hP)
    rw [hP] at HC0
    clear hP
    go_enter Try.func14, Try.ntmps14
    go_wp2_with fail
    refine (HC0.out _ HBx.out).mono ?_
    rintro e w1 ⟨rfl, hb⟩
    have HB1 := Lib.hid (belowTrans HBx.out hb)
    have HA2 := Lib.hid (HA1.out.below hb)
    clear hb
    go_wp2_with fail
    go_loopw [4, 6, 7] (fun su sn sk wr => ∃ (k S : Nat) (o : List Int) (u : Value), k ≤ xss.length ∧ sk = .int .i64 k ∧ sn = .int .i64 ((n - cntS S n : Nat) : Int) ∧ su = u ∧ ParIn n xss k o S ∧ IntsAt wr u o ∧ (0 < o.length ∨ u = .slice none 0 0) ∧ Arr wr w.heap.size 2 (fun j => if j = 0 then .int .i64 (n : Nat) else .slice a xss.length c) ∧ Below w.heap.size w wr) (fun _ _ sk _ => xss.length - (intOf sk).toNat)
    case atStart => exact ⟨0, fullS n, [], _, by omega, rfl, by rw [cntS_full, Nat.sub_self]; rfl, rfl, HP0.out, intsAt_nil _, .inr rfl, HA2.out, HB1.out⟩
    case round =>
      clear HP0 HB1 HA2
      obtain ⟨k, S, o, u, hk, rfl, rfl, hu, hin, hI, hor, hA, hb⟩ := hrel
      subst hu
      have HIn := Lib.hid hin
      have HI := Lib.hid hI
      have HB := Lib.hid hb
      have HAr := Lib.hid hA
      have HS := Lib.hid (canN_lt hin.can)
      have b0 := hA.cell (show 0 < 2 by omega); have b1 := hA.cell (show 1 < 2 by omega)
      have hcle := cntS_all S n
      have hcz := cntS_zero HS.out
      have hofew := hin.few
      clear hin hI hb hA
      by_cases hlt : k < xss.length
      · by_cases hS : S = 0
        · have HE := Lib.hid (HIn.out.done hS)
          have hc0 := hcz.2 hS
          have hge : ¬ (((n - cntS S n : Nat) : Int) < (n : Int)) := by omega
          have hgd : decide ((n - cntS S n : Nat) < n) = false := by simp; omega
          clear hcz hc0 hS
          obtain ⟨ua, uc, rfl, _⟩ := id HI.out
          generalize n - cntS S n = C at *
          go_wp2_with fail
          go_ret2
          exact parPost_of HE.out HI.out HB.out
        · have hcpos : 0 < cntS S n := by
            rcases Nat.eq_zero_or_pos (cntS S n) with e | e
            · exact absurd (hcz.1 e) hS
            · exact e
          have hCl : ((n - cntS S n : Nat) : Int) < (n : Int) := by omega
          have HCv : Hid (cntS S n ≤ n) := hcle
          obtain ⟨hrow, b, o2, rfl, hbb, hcc⟩ := HX.out k hlt
          have cV := hcc k hlt
          rw [← (bcell HB.out).1 _ _ hbb] at cV
          have HBk := Lib.hid (HD.out.all k hlt)
          obtain ⟨va, vc, hV, _⟩ := id hrow
          rw [hV] at cV
          have HBs : Hid (blkS xss k = setOf (rx xss k)) := rfl
          have HBb : Hid (b < w.heap.size ∧ w.cell? ⟨b, o2 + k, none⟩ = some (.slice va (rx xss k).length vc)) := ⟨hbb, by rw [hcc k hlt, hV]⟩
          have i1 : ((k : Nat) : Int) < ((xss.length : Nat) : Int) := by omega
          have hbl40 : (rx xss k).length ≤ 40 := block_len HBk.out (by omega)
          clear hrow hcc hV hbb hcz
          by_cases hl0 : (rx xss k).length = 0
          · have HPass := Lib.hid (HIn.out.pass hlt hS (.inl (by rw [HBs.out]; exact (block_zero HBk.out).2 hl0)))
            have hl0' : ((((rx xss k).length : Nat) : Int) == 0) = true := by rw [hl0]; rfl
            clear hl0 hcpos
            generalize (rx xss k).length = L at *
            generalize hC : n - cntS S n = C at *
            have HCC := Lib.hid hC
            clear hC
            go_wp2_with fail
            go_roundw
            case rel => exact ⟨k + 1, S, o, _, by omega, by go_num, by rw [HCC.out], rfl, HPass.out, HI.out, hor, HAr.out, HB.out⟩
            case measure => simp [intOf]; omega
          · have hl0' : ((((rx xss k).length : Nat) : Int) == 0) = false := by rw [Bool.eq_false_iff, Ne, beq_iff_eq]; omega
            have HBn : Hid (blkS xss k ≠ 0) := by show _ ≠ _; rw [HBs.out]; exact fun e => hl0 ((block_zero HBk.out).1 e)
            have HcB := Lib.hid (canB_snoc (k := k) HIn.out.can)
            have HCnt : Hid (dn (blkS xss k) S = 0 → cntS (dn S (blkS xss k)) n + (rx xss k).length = cntS S n) := fun hs => by
              rw [HBs.out] at hs ⊢
              rw [← cntS_set HBk.out]
              exact cntS_dn (Nat.lt_of_lt_of_le HS.out (Nat.le_trans (pow60 (by omega)) (by omega))) (Nat.lt_of_lt_of_le (setOf_lt HBk.out) (Nat.le_trans (pow60 (by omega)) (by omega))) ((dn_zero (by omega) (setOf_lt HBk.out) HS.out).1 hs)
            have HNx : Hid (∀ i, i < (o ++ [(k : Int)]).length → 0 ≤ ix (o ++ [(k : Int)]) i ∧ ix (o ++ [(k : Int)]) i < xss.length) := fun i hi => by
              rw [List.length_append, List.length_singleton] at hi
              by_cases e : i = o.length
              · subst e
                have : ix (o ++ [(k : Int)]) o.length = (k : Int) := by unfold ix; simp
                rw [this]; omega
              · have : ix (o ++ [(k : Int)]) i = ix o i := by unfold ix; rw [List.getD_eq_getElem?_getD, List.getD_eq_getElem?_getD, List.getElem?_append_left (by omega)]
                have := HIn.out.rng i (by omega)
                omega
            have hol : o.length < 1000000000 := by omega
            have HS0 := Lib.hid hS
            have HCall : Hid (∀ u W, Below w.heap.size w W → IntsAt W u (o ++ [(k : Int)]) → Calls Try.prog 33 #[.agg #[.int .i64 n, .slice (some ⟨b, o2, none⟩) xss.length c], .int .i64 ((k : Int) + 1), u] W fun e w' => e = .returned (.bool (canB xss n (k + 1) (o ++ [(k : Int)]))) ∧ Below W.heap.size W w') := fun u W hW hu => by
              have := HCn.out (k + 1) (o ++ [(k : Int)]) u W hW hu (by omega) (by simp; omega) HNx.out
              rw [Int.natCast_add] at this
              exact this
            clear hl0 hS
            generalize (rx xss k).length = L at *
            generalize hC : n - cntS S n = C at *
            have HCC := Lib.hid hC
            clear hC hcpos hcle
            have HL9 : Hid ((o ++ [(k : Int)]).length ≤ 9223372036854775807) := by show _ ≤ _; simp; omega
            rcases hor with ho | ho
            · have HIb := Lib.hid (HI.out.below (below_box wr (.cells #[] 3)))
              have ho2 := ho
              obtain ⟨ua, uc, rfl, _⟩ := id HI.out
              obtain ⟨ub, uo, rfl⟩ := HI.out.some ho
              go_wp2_with (first
                | (at_builtin; refine app_own rfl _ _ rfl rfl (HO2.out.alloc _) _ _ rfl (World.cell?_alloc_new _ _ _ 0) hol (le_boxP hz2 _) ?_; intro v3 w3 hown3 hgrow3
                   have HBr3 := Lib.hid ((HB2.out.alloc hz2 _).grown hgrow3 (le_boxP hz2 _) (fun q hq => (HO2.out.block q hq).1))
                   have HI3 := Lib.hid (hown3.intsAt (HL9.out))
                   have hA3 := HAr.out.below HBr3.out
                   have d0 := hA3.cell (show 0 < 2 by omega)
                   have d1 := hA3.cell (show 1 < 2 by omega)
                   obtain ⟨va3, vl3, vc3, rfl⟩ := hown3.shape
                   clear hA3 hown3 hgrow3)
                | (at_builtin; refine app_whole rfl _ _ rfl rfl HIb.out rfl ho hol ?_; intro v' w2 hown2 hgrow2
                   have HO2 := Lib.hid (hown2.base (base' := wr.heap.size) (le_boxP (Nat.le_refl _) _))
                   have HB2 := Lib.hid ((below_box wr (.cells #[] 3)).trans (below_grown (v := .slice none 0 0) hgrow2 (B := wr.heap.size) (fun k hk => nomatch hk) (le_boxP (Nat.le_refl _) _)))
                   have hz2 := HB2.out.size
                   clear hown2 hgrow2)
                | fail)
              have HOr : Hid (∀ o' : List Int, 0 < (o' ++ [(k : Int)]).length) := fun o' => by simp
              have HC1 := Lib.hid (HCall.out _ _ (belowTrans HB.out HBr3.out) HI3.out)
              rw [HcB.out] at HC1
              by_cases hs : dn (blkS xss k) S = 0
              · have hcnt := HCnt.out hs
                cases hp : (par (blkS xss) xss.length (xss.length - (k + 1)) (dn S (blkS xss k))).isSome
                · have HPass := Lib.hid (HIn.out.pass hlt HS0.out (.inr (.inr (Option.not_isSome_iff_eq_none.1 (by rw [hp]; exact Bool.false_ne_true)))))
                  rw [hp, Bool.and_false] at HC1
                  clear hp hs hcnt
                  refine (HC1.out).mono ?_
                  rintro e w4 ⟨rfl, hb4⟩
                  have H4 := Lib.hid (belowTrans HBr3.out hb4)
                  clear hb4 d0 d1
                  go_wp2_with fail
                  go_roundw
                  case rel => exact ⟨k + 1, S, _, _, by omega, by go_num, by rw [HCC.out], rfl, HPass.out, HI.out.below H4.out, (by first | exact .inl ho2 | exact .inr rfl), HAr.out.below H4.out, belowTrans HB.out H4.out⟩
                  case measure => simp [intOf]; omega
                · have HTake := Lib.hid (HIn.out.take hlt HS0.out HBn.out hs hp)
                  rw [hp, decide_eq_true hs, Bool.and_true] at HC1
                  have hsum : C + L = n - cntS (dn S (blkS xss k)) n := by have := HCC.out; have := HCv.out; omega
                  have HSum := Lib.hid hsum
                  have hCn : C ≤ 40 := by have := HCC.out; omega
                  clear hp hs hcnt hsum
                  refine (HC1.out).mono ?_
                  rintro e w4 ⟨rfl, hb4⟩
                  have H4 := Lib.hid (belowTrans HBr3.out hb4)
                  have HI4 := Lib.hid (HI3.out.below hb4)
                  have hA4 := HAr.out.below H4.out
                  have f0 := hA4.cell (show 0 < 2 by omega)
                  have f1 := hA4.cell (show 1 < 2 by omega)
                  have cV4 : w4.cell? ⟨b, o2 + k, none⟩ = some (.slice va L vc) := by rw [(bcell (belowTrans HB.out H4.out)).1 _ _ HBb.out.1]; exact HBb.out.2
                  clear hb4 d0 d1 hA4
                  go_wp2_with fail
                  go_roundw
                  case rel => exact ⟨k + 1, _, _, _, by omega, by go_num, by rw [← HSum.out]; go_num, rfl, HTake.out, HI4.out, .inl (HOr.out _), HAr.out.below H4.out, belowTrans HB.out H4.out⟩
                  case measure => simp [intOf]; omega
              · have HPass := Lib.hid (HIn.out.pass hlt HS0.out (.inr (.inl hs)))
                rw [decide_eq_false hs, Bool.false_and] at HC1
                clear hs
                refine (HC1.out).mono ?_
                rintro e w4 ⟨rfl, hb4⟩
                have H4 := Lib.hid (belowTrans HBr3.out hb4)
                clear hb4 d0 d1
                go_wp2_with fail
                go_roundw
                case rel => exact ⟨k + 1, S, _, _, by omega, by go_num, by rw [HCC.out], rfl, HPass.out, HI.out.below H4.out, (by first | exact .inl ho2 | exact .inr rfl), HAr.out.below H4.out, belowTrans HB.out H4.out⟩
                case measure => simp [intOf]; omega
            · subst ho
              obtain rfl : o = [] := by
                obtain ⟨_, _, ev, _⟩ := HI.out
                injection ev with _ ev2 _
                exact List.eq_nil_of_length_eq_zero ev2.symm
              have HXk : Hid (((wr.alloc (.cells #[] 3)).alloc (.cells #[.int .i64 k] 3)).cell? ⟨wr.heap.size + 1, 0, none⟩ = some (.int .i64 k)) := by
                have := World.cell?_alloc_new (wr.alloc (.cells #[] 3)) #[.int .i64 k] 3 0
                rw [World.size_alloc] at this
                exact this
              go_wp2_with (first
                | (at_builtin; refine app_full (xs := []) rfl _ _ rfl rfl (intsAt_empty _ _) (wr.heap.size + 1) (k : Int) rfl HXk.out (by simp) ?_; intro v3 w3 hown3 hgrow3
                   have HBr3 := Lib.hid (((below_box wr (.cells #[] 3)).alloc (le_boxP (Nat.le_refl _) _) (.cells #[.int .i64 k] 3)).trans (below_grown (v := .slice none 0 0) hgrow3 (B := wr.heap.size) (fun k hk => nomatch hk) (le_boxP (le_boxP (Nat.le_refl _) _) _)))
                   have HI3 := Lib.hid (hown3.intsAt (HL9.out))
                   have hA3 := HAr.out.below HBr3.out
                   have d0 := hA3.cell (show 0 < 2 by omega)
                   have d1 := hA3.cell (show 1 < 2 by omega)
                   obtain ⟨va3, vl3, vc3, rfl⟩ := hown3.shape
                   clear hA3 hown3 hgrow3)
                | fail)
              have HOr : Hid (∀ o' : List Int, 0 < (o' ++ [(k : Int)]).length) := fun o' => by simp
              have HC1 := Lib.hid (HCall.out _ _ (belowTrans HB.out HBr3.out) HI3.out)
              rw [HcB.out] at HC1
              by_cases hs : dn (blkS xss k) S = 0
              · have hcnt := HCnt.out hs
                cases hp : (par (blkS xss) xss.length (xss.length - (k + 1)) (dn S (blkS xss k))).isSome
                · have HPass := Lib.hid (HIn.out.pass hlt HS0.out (.inr (.inr (Option.not_isSome_iff_eq_none.1 (by rw [hp]; exact Bool.false_ne_true)))))
                  rw [hp, Bool.and_false] at HC1
                  clear hp hs hcnt
                  refine (HC1.out).mono ?_
                  rintro e w4 ⟨rfl, hb4⟩
                  have H4 := Lib.hid (belowTrans HBr3.out hb4)
                  clear hb4 d0 d1
                  go_wp2_with fail
                  go_roundw
                  case rel => exact ⟨k + 1, S, _, _, by omega, by go_num, by rw [HCC.out], rfl, HPass.out, HI.out.below H4.out, (by first | exact .inl ho2 | exact .inr rfl), HAr.out.below H4.out, belowTrans HB.out H4.out⟩
                  case measure => simp [intOf]; omega
                · have HTake := Lib.hid (HIn.out.take hlt HS0.out HBn.out hs hp)
                  rw [hp, decide_eq_true hs, Bool.and_true] at HC1
                  have hsum : C + L = n - cntS (dn S (blkS xss k)) n := by have := HCC.out; have := HCv.out; omega
                  have HSum := Lib.hid hsum
                  have hCn : C ≤ 40 := by have := HCC.out; omega
                  clear hp hs hcnt hsum
                  refine (HC1.out).mono ?_
                  rintro e w4 ⟨rfl, hb4⟩
                  have H4 := Lib.hid (belowTrans HBr3.out hb4)
                  have HI4 := Lib.hid (HI3.out.below hb4)
                  have hA4 := HAr.out.below H4.out
                  have f0 := hA4.cell (show 0 < 2 by omega)
                  have f1 := hA4.cell (show 1 < 2 by omega)
                  have cV4 : w4.cell? ⟨b, o2 + k, none⟩ = some (.slice va L vc) := by rw [(bcell (belowTrans HB.out H4.out)).1 _ _ HBb.out.1]; exact HBb.out.2
                  clear hb4 d0 d1 hA4
                  go_wp2_with fail
                  go_roundw
                  case rel => exact ⟨k + 1, _, _, _, by omega, by go_num, by rw [← HSum.out]; go_num, rfl, HTake.out, HI4.out, .inl (HOr.out _), HAr.out.below H4.out, belowTrans HB.out H4.out⟩
                  case measure => simp [intOf]; omega
              · have HPass := Lib.hid (HIn.out.pass hlt HS0.out (.inr (.inl hs)))
                rw [decide_eq_false hs, Bool.false_and] at HC1
                clear hs
                refine (HC1.out).mono ?_
                rintro e w4 ⟨rfl, hb4⟩
                have H4 := Lib.hid (belowTrans HBr3.out hb4)
                clear hb4 d0 d1
                go_wp2_with fail
                go_roundw
                case rel => exact ⟨k + 1, S, _, _, by omega, by go_num, by rw [HCC.out], rfl, HPass.out, HI.out.below H4.out, (by first | exact .inl ho2 | exact .inr rfl), HAr.out.below H4.out, belowTrans HB.out H4.out⟩
                case measure => simp [intOf]; omega
      · obtain rfl : k = xss.length := by omega
        have HE := Lib.hid (HIn.out.done HIn.out.zero)
        obtain ⟨ua, uc, rfl, _⟩ := id HI.out
        clear hcz
        generalize n - cntS S n = C at *
        go_wp2_with fail
        go_ret2
        exact parPost_of HE.out HI.out HB.out
end Go.Proofs.Ytkmcmahpfhlkhaa
