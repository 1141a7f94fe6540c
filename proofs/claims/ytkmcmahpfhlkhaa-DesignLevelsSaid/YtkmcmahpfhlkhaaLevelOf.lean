/-
  Contract: the reference's LevelOf, of any design without fault. No condition.
-/
import Derived.Deep.LoopGhost
import Derived.Test.YtkmcmahpfhlkhaaNextSet2
import Derived.Test.YtkmcmahpfhlkhaaLevel
namespace Go.Proofs.Ytkmcmahpfhlkhaa
open Go.RowKit

theorem hasP_any (xss : List (List Int)) (P : List Nat) (i : Nat) : (!anyB (fun y => !mem (rx xss i) y) (P.map (fun x : Nat => (x : Int)))) = hasP xss P i := by
  unfold anyB hasP
  rw [List.any_map]
  induction P with
  | nil => rfl
  | cons x P ih =>
    rw [List.any_cons, List.all_cons, Bool.not_or, ih]
    show (!!mem (rx xss i) (x : Int) && _) = _
    rw [Bool.not_not]

set_option maxRecDepth 100000 in
set_option maxHeartbeats 1000000 in
theorem levelOf_range (n t : Int) (v : Value) (w : World) (ht : t < 0 ∨ 4 < t ∨ n < t) :
    Calls Try.prog 18 #[.agg #[.int .i64 n, v], .int .i64 t] w (LevPost 0 0 1 w) := by
  have HB := Lib.hid (below_box w (.cells #[.int .i64 n, v] 24))
  by_cases h1 : t < 0
  · have d1 : decide (t < 0) = true := by simpa using h1
    go_enter Try.func18, Try.ntmps18
    go_wp2_with fail
    refine bodyPost_ret (v := .tuple #[.int .i64 0, .int .i64 0, .int .i64 1]) ?_ rfl ⟨rfl, HB.out⟩
    simp [results, Try.results18, go_sem]
  · by_cases h2 : 4 < t
    · have d1 : decide (t < 0) = false := by simpa using h1
      have d2 : decide (4 < t) = true := by simpa using h2
      go_enter Try.func18, Try.ntmps18
      go_wp2_with fail
      refine bodyPost_ret (v := .tuple #[.int .i64 0, .int .i64 0, .int .i64 1]) ?_ rfl ⟨rfl, HB.out⟩
      simp [results, Try.results18, go_sem]
    · have d1 : decide (t < 0) = false := by simpa using h1
      have d2 : decide (4 < t) = false := by simpa using h2
      have d3 : decide (n < t) = true := by simp; omega
      clear ht h1 h2
      go_enter Try.func18, Try.ntmps18
      go_wp2_with fail
      refine bodyPost_ret (v := .tuple #[.int .i64 0, .int .i64 0, .int .i64 1]) ?_ rfl ⟨rfl, HB.out⟩
      simp [results, Try.results18, go_sem]

set_option maxRecDepth 100000 in
set_option maxHeartbeats 1000000 in
theorem levelOf_none (n t : Int) (v : Value) (w : World) (h : RowsAt w v []) (ht : 0 ≤ t ∧ t ≤ 4 ∧ t ≤ n) :
    Calls Try.prog 18 #[.agg #[.int .i64 n, v], .int .i64 t] w (LevPost 0 0 4 w) := by
  have HB := Lib.hid (below_box w (.cells #[.int .i64 n, v] 24))
  obtain ⟨a, c, V, rfl, h1, h2, _, h3⟩ := h
  clear h3
  have d1 : decide (t < 0) = false := by simp; omega
  have d2 : decide (4 < t) = false := by simp; omega
  have d3 : decide (n < t) = false := by simp; omega
  clear ht
  go_enter Try.func18, Try.ntmps18
  go_wp2_with fail
  refine bodyPost_ret (v := .tuple #[.int .i64 0, .int .i64 0, .int .i64 4]) ?_ rfl ⟨rfl, HB.out⟩
  simp [results, Try.results18, go_sem]

/-- How far the reference has come. -/
structure LevSt (N : Nat) (xss : List (List Int)) (T : Nat) (sv : Value) (k : Nat) (lam : Int) (wr : World) (pre : List (List Nat)) (cur : List Nat) (rest : List (List Nat)) : Prop where
  all : subsL N T 0 = pre ++ cur :: rest
  len : rest.length = k
  same : sameB (lamP xss) pre = true
  lam : lam = lamOf (lamP xss) pre
  set : SetAt wr sv cur
def LevSp (N : Nat) (xss : List (List Int)) (T : Nat) (sv : Value) (k : Nat) (l : Value) (wr : World) : Prop := ∃ lam pre cur rest, l = .int .i64 lam ∧ LevSt N xss T sv k lam wr pre cur rest

set_option maxRecDepth 100000 in
set_option maxHeartbeats 2000000 in
theorem levelOf_some (n t : Nat) (v : Value) (xss : List (List Int)) (w : World) (h : RowsAt w v xss) (hD : IsDes n xss) (ht : t ≤ 4 ∧ t ≤ n) (hx : 0 < xss.length) :
    Calls Try.prog 18 #[.agg #[.int .i64 n, v], .int .i64 t] w (LevPost (levK n xss t) (levL n xss t) (levE n xss t) w) := by
  have HDes := Lib.hid hD
  have hn := hD.hi
  have hl := hD.few
  have HT := Lib.hid ht
  clear hD
  obtain ⟨a, c, V, rfl, h1, h2, _, h3⟩ := h
  have HX := Lib.hid h3; clear h3
  have HB := Lib.hid (below_box w (.cells #[.int .i64 (n : Int), .slice a xss.length c] 24))
  have HA := Lib.hid (pair_new w (.int .i64 (n : Int)) (.slice a xss.length c) 24 _ rfl)
  have hnn : n ≤ 40 := by omega
  have d1 : decide (((t : Nat) : Int) < 0) = false := by simp
  have d2 : decide (4 < ((t : Nat) : Int)) = false := by simp; omega
  have d2' : decide (4 < t) = false := by simp; omega
  have d3 : decide (n < t) = false := by simp; omega
  have d4 : (((xss.length : Nat) : Int) == 0) = false := by simp; intro e; subst e; simp at hx
  obtain ⟨hrow0, bb, oo, rfl, hbl, hcc⟩ := HX.out 0 hx
  have hc0 := hcc 0 hx
  obtain ⟨ra, rc, hV0, q1, q2, _, _⟩ := hrow0
  rw [hV0, Nat.add_zero] at hc0
  clear ht hcc hV0
  go_enter Try.func18, Try.ntmps18
  go_wp2_with fail
  clear hc0 d1 d2 d2' d3 d4
  go_loop [8] (fun s => ∃ k : Nat, k ≤ xss.length ∧ s = .int .i64 k ∧ ∀ i, i < k → (rx xss i).length = (rx xss 0).length) (fun s => xss.length - (intOf s).toNat)
  case atStart => exact ⟨0, by omega, rfl, fun i hi => by omega⟩
  case round =>
    obtain ⟨k, hk, rfl, hu⟩ := hrel
    have HU := Lib.hid hu
    clear hu
    by_cases hlt : k < xss.length
    · obtain ⟨hrow, b2, o2, eb, hb2, hc⟩ := HX.out k hlt
      have hcell := hc k hlt
      obtain ⟨ra2, rc2, hV2, q12, q22, _, _⟩ := hrow
      injection eb with eb; injection eb with e1 e2 _; subst e1; subst e2
      rw [hV2] at hcell
      clear hc hV2
      cases el : ((((rx xss k).length : Nat) : Int) != (((rx xss 0).length : Nat) : Int))
      · have He : Hid ((rx xss k).length = (rx xss 0).length) := by show _ = _; simp at el; omega
        go_wp2_with fail
        go_round
        case rel => exact ⟨k + 1, by omega, by go_num, fun i hi => by
          by_cases e : i = k
          · subst e; exact He.out
          · exact HU.out i (by omega)⟩
        case measure => simp [intOf]; omega
      · have He : Hid (levE n xss t = 4) := by
          show _ = _
          have ht4 := HT.out
          have hu : uniB xss = false := by
            rw [uni_some]
            cases e : someN (notK xss) xss.length
            · rw [someN_false] at e
              have := e k hlt
              unfold notK at this
              rw [el] at this; cases this
            · rfl
          unfold levE
          rw [if_neg (by rw [HDes.out.fault]; simp), if_neg (by omega), if_neg (by omega), if_pos hu]
        go_wp2_with fail
        refine bodyPost_ret (v := .tuple #[.int .i64 0, .int .i64 0, .int .i64 4]) ?_ rfl ?_
        · simp [results, Try.results18, go_sem]
        · unfold levK levL; rw [He.out]; exact ⟨rfl, HB.out⟩
    · obtain rfl : k = xss.length := by omega
      go_wp2_with fail
      have HE : Hid (levE n xss t = if sameB (lamP xss) (subsL n t 0) = false then 4 else 0) := by
        show _ = _
        have ht4 := HT.out
        have hu : uniB xss = true := List.all_eq_true.2 fun b hb => by
          obtain ⟨i, hi, rfl⟩ := List.getElem_of_mem hb
          have := HU.out i hi
          rw [rx_lt hi] at this
          simpa using this
        unfold levE
        rw [if_neg (by rw [HDes.out.fault]; simp), if_neg (by omega), if_neg (by omega), if_neg (by rw [hu]; decide), Int.toNat_natCast, Int.toNat_natCast]
      clear HU
      refine (still_any t (by have := HT.out; omega) _).mono ?_
      rintro e w2 ⟨sv, rfl, hown, hb⟩
      rw [pickL_range] at hown
      have HS0 := Lib.hid (ints_set hown)
      have HB2 := Lib.hid (belowTrans HB.out hb)
      have HA2 := Lib.hid (HA.out.below hb)
      have HOB : Hid (∀ k, sv.ownBlock = some k → w.heap.size + 1 ≤ k) := fun k hk => by have := (hown.block k hk).1; simpa using this
      obtain ⟨sa, sl, sc, rfl⟩ := hown.shape
      clear hown hb
      go_wp2_with fail
      have hsub := subsL_head (n := n) (l := t) (a := 0) (by have := HT.out; omega)
      obtain ⟨M, hM⟩ := hsub
      rw [← List.range_eq_range'] at hM
      have HM := Lib.hid hM
      clear hM
      go_loopg [10] M.length (fun k l wr => LevSp n xss t (.slice sa sl sc) k l wr ∧ Below w.heap.size w wr ∧ Arr wr w.heap.size 2 (fun j => if j = 0 then Value.int .i64 (n : Int) else .slice (some ⟨bb, oo, none⟩) xss.length c))
      case atStart => exact ⟨⟨-1, [], List.range t, M, rfl, ⟨HM.out, rfl, rfl, rfl, HS0.out⟩⟩, HB2.out, HA2.out⟩
      case round =>
        clear HS0 HB2 HA2 HM
        obtain ⟨⟨lam, pre, cur, rest, rfl, hL⟩, hB, hA⟩ := hrel
        have HL := Lib.hid hL
        have HBw := Lib.hid hB
        have HAw := Lib.hid hA
        have b0 := hA.cell (show 0 < 2 by omega); have b1 := hA.cell (show 1 < 2 by omega)
        clear hL hB hA
        go_wp2_with fail
        go_loop [11, 12] (fun m s => ∃ k : Nat, k ≤ xss.length ∧ s = .int .i64 k ∧ m = .int .i64 (cnt (hasP xss cur) k : Nat)) (fun _ s => xss.length - (intOf s).toNat)
        case atStart => exact ⟨0, by omega, rfl, rfl⟩
        case round =>
          obtain ⟨k, hk, rfl, rfl⟩ := hrel
          have hcl := cnt_le (hasP xss cur) k
          by_cases hlt : k < xss.length
          · obtain ⟨hrow, b2, o2, eb, hb2, hc⟩ := HX.out k hlt
            have hcell := hc k hlt
            injection eb with eb; injection eb with e1 e2 _; subst e1; subst e2
            rw [← (bcell HBw.out).1 _ _ hb2] at hcell
            have HCa := Lib.hid (all_any (V k) _ _ _ wr (hrow.below HBw.out) HL.out.set.ints)
            rw [hasP_any] at HCa
            obtain ⟨ra2, rc2, hV2, q12, q22, _, _⟩ := hrow
            rw [hV2] at hcell HCa
            have HCn : Hid (cnt (hasP xss cur) (k + 1) = cnt (hasP xss cur) k + if hasP xss cur k then 1 else 0) := rfl
            clear hc hV2
            generalize cnt (hasP xss cur) k = C at *
            cases eh : hasP xss cur k
            · rw [eh] at HCa HCn
              clear eh
              go_wp2_with fail
              refine (HCa.out).mono ?_
              rintro e w' ⟨rfl, rfl⟩
              go_wp2_with fail
              go_round
              case rel => exact ⟨k + 1, by omega, by go_num, by rw [HCn.out]; rfl⟩
              case measure => simp [intOf]; omega
            · rw [eh] at HCa HCn
              clear eh
              go_wp2_with fail
              refine (HCa.out).mono ?_
              rintro e w' ⟨rfl, rfl⟩
              go_wp2_with fail
              go_round
              case rel => exact ⟨k + 1, by omega, by go_num, by rw [HCn.out]; go_num⟩
              case measure => simp [intOf]; omega
          · obtain rfl : k = xss.length := by omega
            have HCx : Hid (lamP xss cur = cnt (hasP xss cur) xss.length) := rfl
            generalize cnt (hasP xss cur) xss.length = C at *
            have hcur : cur ∈ subsL n t 0 := by rw [HL.out.all]; simp
            have hcm := mem_subsL.1 hcur
            have HNx := Lib.hid (chain_at (L := pre) (M := rest) (by rw [← HL.out.all]; exact subsL_chain n t 0))
            have HCN := Lib.hid (nextSet_any n cur _ wr hnn (by have := HT.out; omega) (fun x hx => (riseL_ge hcm.2 x hx).2) HL.out.set)
            have hlam := HL.out.lam
            clear hcur hcm
            by_cases hp : pre = [] ∨ lamOf (lamP xss) pre = (lamP xss cur : Int)
            · have HP := Lib.hid hp
              have hlam2 : (lam = -1 ∧ pre = []) ∨ lam = (C : Int) := by
                rcases hp with hp | hp
                · left; rw [hlam, hp]; exact ⟨rfl, rfl⟩
                · right; rw [hlam, hp, HCx.out]
              have HSn := Lib.hid (sameB_snoc HL.out.same HP.out)
              have HLn := Lib.hid (lamOf_snoc HP.out)
              have key : ∀ (wx : World), True := fun _ => trivial
              clear hp hlam key
              cases rest with
              | nil =>
                have hpost : NextSP n cur (.slice sa sl sc) wr = fun e w' => e = .returned (.bool false) ∧ wr = w' := by
                  funext e w'; unfold NextSP; rw [HNx.out]; rfl
                rw [hpost] at HCN
                have HF : Hid (levE n xss t = 0 ∧ lamOf (lamP xss) (subsL n t 0) = (C : Int)) := by
                  show _ ∧ _
                  rw [HE.out, HL.out.all, HSn.out, HLn.out, HCx.out]; exact ⟨rfl, rfl⟩
                clear hpost
                rcases hlam2 with ⟨rfl, _⟩ | rfl
                · go_wp2_with fail
                  refine (HCN.out).mono ?_
                  rintro e w' ⟨rfl, rfl⟩
                  go_wp2_with fail
                  refine bodyPost_ret (v := .tuple #[.int .i64 ((rx xss 0).length : Nat), .int .i64 (C : Nat), .int .i64 0]) ?_ rfl ?_
                  · simp [results, Try.results18, go_sem]
                  · unfold levK levL; rw [HF.out.1, if_pos rfl, if_pos rfl, Int.toNat_natCast, Int.toNat_natCast, HF.out.2]; exact ⟨rfl, HBw.out⟩
                · have dn : (((C : Nat) : Int) != ((C : Nat) : Int)) = false := by simp
                  go_wp2_with fail
                  refine (HCN.out).mono ?_
                  rintro e w' ⟨rfl, rfl⟩
                  go_wp2_with fail
                  refine bodyPost_ret (v := .tuple #[.int .i64 ((rx xss 0).length : Nat), .int .i64 (C : Nat), .int .i64 0]) ?_ rfl ?_
                  · simp [results, Try.results18, go_sem]
                  · unfold levK levL; rw [HF.out.1, if_pos rfl, if_pos rfl, Int.toNat_natCast, Int.toNat_natCast, HF.out.2]; exact ⟨rfl, HBw.out⟩
              | cons y rest =>
                have hpost : NextSP n cur (.slice sa sl sc) wr = fun e w' => e = .returned (.bool true) ∧ SetAt w' (.slice sa sl sc) y ∧ y.length = cur.length ∧ wr.grownBy w' (Value.slice sa sl sc).ownBlock := by
                  funext e w'; unfold NextSP; rw [HNx.out]; rfl
                rw [hpost] at HCN
                clear hpost
                have hlenr := HL.out.len
                have HRel : Hid (∀ w', SetAt w' (.slice sa sl sc) y → wr.grownBy w' (Value.slice sa sl sc).ownBlock → LevSp n xss t (.slice sa sl sc) rest.length (.int .i64 (C : Nat)) w' ∧ Below w.heap.size w w' ∧ Arr w' w.heap.size 2 (fun j => if j = 0 then Value.int .i64 (n : Int) else .slice (some ⟨bb, oo, none⟩) xss.length c)) := by
                  intro w' hs hg
                  have hz := HBw.out.size
                  have hzb := HAw.out.lt
                  have hne : some w.heap.size ≠ (Value.slice sa sl sc).ownBlock := fun e => by have := HOB.out _ e.symm; omega
                  refine ⟨⟨C, pre ++ [cur], y, rest, rfl, ⟨by rw [HL.out.all]; simp, rfl, HSn.out, by rw [HLn.out, HCx.out], hs⟩⟩, HBw.out.grown hg hz (fun k hk => by have := HOB.out k hk; omega), ?_⟩
                  exact HAw.out.kept (fun o => hg.cell_far ⟨w.heap.size, o, none⟩ hzb hne) (fun o => hg.frozen_far ⟨w.heap.size, o, none⟩ hzb hne) hg.size
                rcases hlam2 with ⟨rfl, _⟩ | rfl
                · go_wp2_with fail
                  refine (HCN.out).mono ?_
                  rintro e w' ⟨rfl, hs, hl2, hg⟩
                  have HS2 := Lib.hid hs; have HG := Lib.hid hg
                  clear hs hg hl2
                  go_wp2_with fail
                  go_roundg rest.length
                  case rel => exact HRel.out _ HS2.out HG.out
                  case measure => rw [← hlenr]; simp
                · have dn : (((C : Nat) : Int) != ((C : Nat) : Int)) = false := by simp
                  go_wp2_with fail
                  refine (HCN.out).mono ?_
                  rintro e w' ⟨rfl, hs, hl2, hg⟩
                  have HS2 := Lib.hid hs; have HG := Lib.hid hg
                  clear hs hg hl2
                  go_wp2_with fail
                  go_roundg rest.length
                  case rel => exact HRel.out _ HS2.out HG.out
                  case measure => rw [← hlenr]; simp
            · have hL0 : 0 ≤ lam := by rw [hlam]; exact lamOf_nonneg (fun e => hp (.inl e))
              have hdiff : (((C : Nat) : Int) != lam) = true := by
                have := HCx.out
                simp only [bne_iff_ne, ne_eq]
                intro e; exact hp (.inr (by rw [this, e, hlam]))
              have HF : Hid (levE n xss t = 4) := by
                show _ = _
                rw [HE.out, HL.out.all]
                cases pre with
                | nil => exact absurd (.inl rfl) hp
                | cons a pre => rw [sameB_not (x := a) (y := cur) (by simp) (by simp) (fun e => hp (.inr (by show ((lamP xss a : Nat) : Int) = _; rw [e])))]; rfl
              have dL : decide (0 ≤ lam) = true := by simpa using hL0
              clear hp hlam
              go_wp2_with fail
              refine bodyPost_ret (v := .tuple #[.int .i64 0, .int .i64 0, .int .i64 4]) ?_ rfl ?_
              · simp [results, Try.results18, go_sem]
              · unfold levK levL; rw [HF.out]; exact ⟨rfl, HBw.out⟩

theorem levE_range {n t : Int} {xss : List (List Int)} (hf : desFault n xss = 0) (ht : t < 0 ∨ 4 < t ∨ n < t) : levE n xss t = 1 := by
  unfold levE; rw [if_neg (by rw [hf]; simp), if_pos ht]
theorem levE_none {n t : Int} (hf : desFault n [] = 0) (ht : ¬ (t < 0 ∨ 4 < t ∨ n < t)) : levE n [] t = 4 := by
  unfold levE; rw [if_neg (by rw [hf]; simp), if_neg ht]; rfl
theorem lev_zero {n t : Int} {xss : List (List Int)} (h : levE n xss t ≠ 0) : levK n xss t = 0 ∧ levL n xss t = 0 := by
  unfold levK levL; rw [if_neg h, if_neg h]; exact ⟨rfl, rfl⟩
/-- The reference's LevelOf answers as Level. -/
theorem levelOf_any (n t : Int) (v : Value) (xss : List (List Int)) (w : World) (h : RowsAt w v xss) (hf : desFault n xss = 0) :
    Calls Try.prog 18 #[.agg #[.int .i64 n, v], .int .i64 t] w (LevPost (levK n xss t) (levL n xss t) (levE n xss t) w) := by
  by_cases h1 : t < 0 ∨ 4 < t ∨ n < t
  · have e := levE_range hf h1
    obtain ⟨e1, e2⟩ := lev_zero (n := n) (t := t) (xss := xss) (by rw [e]; decide)
    rw [e, e1, e2]
    exact levelOf_range n t v w h1
  · by_cases h2 : xss.length = 0
    · obtain rfl := List.eq_nil_of_length_eq_zero h2
      have e := levE_none hf h1
      obtain ⟨e1, e2⟩ := lev_zero (n := n) (t := t) (xss := []) (by rw [e]; decide)
      rw [e, e1, e2]
      exact levelOf_none n t v w h (by omega)
    · have hD := des_of hf
      have := hD.lo
      obtain ⟨m, rfl⟩ := Int.eq_ofNat_of_zero_le (show 0 ≤ n by omega)
      obtain ⟨s, rfl⟩ := Int.eq_ofNat_of_zero_le (show 0 ≤ t by omega)
      exact levelOf_some m s v xss w h hD (by omega) (by omega)
theorem levE_fault {n t : Int} {xss : List (List Int)} (h : desFault n xss ≠ 0) : levE n xss t = desFault n xss := by
  unfold levE; rw [if_pos h]
end Go.Proofs.Ytkmcmahpfhlkhaa
