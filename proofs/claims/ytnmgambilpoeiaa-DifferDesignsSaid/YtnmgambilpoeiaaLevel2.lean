/-
  Contract: design.Level, of a design with blocks: of one level, or not. No condition.
-/
import Derived.Test.YtnmgambilpoeiaaLevel
namespace Go.Proofs.Ytnmgambilpoeiaa
open Go.RowKit Go.Shelf
attribute [local go_sem] Oper.semAt_some

theorem OwnU.kept {w w' : World} {row : Option Nat} {base : Nat} {v : Value} {ss : List Nat} (h : OwnU w base v ss) (hg : w.grownBy w' row) (hr : ∀ r, row = some r → ∃ o : Obj, w.heap[r]? = some o ∧ o.isCells = false) : OwnU w' base v ss := by
  refine World.ownsRow.kept h hg ?_
  rcases h.2 with ⟨rfl, _⟩ | ⟨g, cap, cur, rfl, _, hgb, _⟩
  · exact .inl rfl
  · refine .inr fun e' => ?_
    obtain ⟨o, ho, hc⟩ := hr g (by simpa [Value.ownBlock] using e'.symm)
    rw [hgb] at ho; cases ho; cases hc
theorem boxed_keeps {W W' : World} {row : Option Nat} {B : Nat} {t : TypeId} {v : Value} (h : Boxed W B t v) (hg : W.grownBy W' row) (hr : ∀ r, row = some r → ∃ o : Obj, W.heap[r]? = some o ∧ o.isCells = false) : Boxed W' B t v :=
  h.kept hg fun e => by
    obtain ⟨o, ho, hc⟩ := hr B e.symm
    rw [show W.heap[B]? = _ from h] at ho; cases ho; cases hc

/-- How often a set lies in a block. -/
def lamC (xss : List (List Int)) (x : Nat) : Nat := lamM xss (capB x)
/-- What stands in memory between two rounds. -/
structure LevIn (w : World) (xss : List (List Int)) (sv : Value) (base kb lb ab : Nat) (pre : List Nat) (W : World) : Prop where
  same : sameB (lamC xss) pre = true
  lam : Boxed W lb 3 (.int .i64 (lamOf (lamC xss) pre))
  kk : Boxed W kb 3 (.int .i64 ((rx xss 0).length : Nat))
  all : Boxed W ab 61 sv
  own : OwnU W base sv (setsTo xss xss.length)
  k : Boxed W (w.heap.size + 1) 3 (.int .i64 0)
  l : Boxed W (w.heap.size + 1 + 1) 3 (.int .i64 0)
  e : Boxed W (w.heap.size + 1 + 1 + 1) 24 (.int .i64 0)
structure LevOut (w : World) (xss : List (List Int)) (c : Code) (pre : List Nat) (W : World) : Prop where
  ret : c = .ret
  same : sameB (lamC xss) pre = false
  k : Boxed W (w.heap.size + 1) 3 (.int .i64 0)
  l : Boxed W (w.heap.size + 1 + 1) 3 (.int .i64 0)
  e : Boxed W (w.heap.size + 1 + 1 + 1) 24 (.int .i64 4)

theorem same_pre {α : Type} {f : α → Nat} {p L : List α} (h : p <+: L) (e : sameB f p = false) : sameB f L = false := by
  cases e2 : sameB f L
  · rfl
  · have := sameB_iff.1 e2
    have e3 : sameB f p = true := sameB_iff.2 fun x hx y hy => this x (h.subset hx) y (h.subset hy)
    rw [e] at e3; cases e3
set_option maxRecDepth 100000 in
set_option maxHeartbeats 2000000 in
theorem level_some (n t : Nat) (v : Value) (xss : List (List Int)) (w : World) (h : RowsAt w v xss) (hD : IsDes n xss) (ht : t ≤ 4 ∧ t ≤ n) (hx : 0 < xss.length) (hu : uniB xss = true) :
    Calls Try.prog 30 #[.agg #[.int .i64 n, v], .int .i64 t] w
      (fun d w' => (sameB (lamC xss) (subsM n t 0 0) = true ∧ LevPost (rx xss 0).length (lamOf (lamC xss) (subsM n t 0 0)) 0 w d w') ∨ (sameB (lamC xss) (subsM n t 0 0) = false ∧ LevPost 0 0 4 w d w')) := by
  have HV := Lib.hid h
  have HC := Lib.hid (check_any n v xss _ (h.below (levW_below n v w)))
  rw [hD.fault] at HC
  have HDes := Lib.hid hD
  have hn := hD.hi
  have hl := hD.few
  have HT := Lib.hid ht
  clear hD
  obtain ⟨a, c, V, rfl, h1, h2, _, h3⟩ := h
  have HX := Lib.hid h3; clear h3
  have HR := Lib.hid (levRel_new n (.slice a xss.length c) w)
  unfold levW at HC HR
  have hnn : n ≤ 40 := by omega
  have d1 : decide (((t : Nat) : Int) < 0) = false := by simp
  have d2 : decide (4 < ((t : Nat) : Int)) = false := by simp; omega
  have d2' : decide (4 < t) = false := by simp; omega
  have d3 : decide (n < t) = false := by simp; omega
  have d4 : (((xss.length : Nat) : Int) == 0) = false := by simp; intro e; subst e; simp at hx
  have hU : Hid (someN (unlikeK xss) xss.length = false) := by show _ = _; rw [uni_some] at hu; simpa using hu
  clear ht hu
  refine (callsIn_wide (n := 9)).1 ?_
  refine callsIn_of_wp_marks Try.func30 rfl trivial ?_ rfl
  simp only [Try.ntmps30, List.size_toArray, List.length_cons, List.length_nil, Nat.reduceAdd, Nat.reduceSub, Array.replicate_succ, Array.replicate_zero, List.push_toArray, List.append_toArray, List.nil_append, List.cons_append]
  gi_wp2_with fail
  refine ⟨trivial, (callsIn_wide.2 HC.out).mono ?_⟩
  rintro e w1 ⟨rfl, hb⟩
  have HR1 := Lib.hid (HR.out.next hb)
  have hz := hb.size
  simp only [World.size_alloc] at hz
  clear hb HC HR
  have b0 := HR1.out.box.cell (show 0 < 2 by omega); have b1 := HR1.out.box.cell (show 1 < 2 by omega)
  obtain ⟨hrow0, bb, oo, rfl, hbl, hcc⟩ := HX.out 0 hx
  have hc0 := hcc 0 hx
  rw [← (bcell HR1.out.bel).1 _ _ hbl] at hc0
  obtain ⟨ra, rc, hV0, q1, q2, _, _⟩ := hrow0
  rw [hV0, Nat.add_zero] at hc0
  have hbl1 : bb < w1.heap.size := by omega
  have HZ : Hid (w.heap.size + 4 ≤ w1.heap.size) := by show _ ≤ _; omega
  clear hcc hV0
  obtain ⟨W2, hW2⟩ : ∃ W2, (w1.alloc (.cells #[.int .i64 ((rx xss 0).length : Nat)] 3)).alloc (.cells #[.int .i64 (-1)] 3) = W2 := ⟨_, rfl⟩
  have hB2 : Below w1.heap.size w1 W2 := by rw [← hW2]; exact ((Below.refl _ _).alloc (Nat.le_refl _) _).alloc (by simp) _
  have HR2 := Lib.hid (HR1.out.next hB2)
  have BK : Hid (Boxed W2 w1.heap.size 3 (.int .i64 ((rx xss 0).length : Nat))) := by show Boxed _ _ _ _; rw [← hW2]; exact (Boxed.new _ _ _).alloc _
  have BL : Hid (Boxed W2 (w1.heap.size + 1) 3 (.int .i64 (-1))) := by
    show Boxed _ _ _ _; rw [← hW2]
    have := Boxed.new (w1.alloc (.cells #[.int .i64 ((rx xss 0).length : Nat)] 3)) 3 (.int .i64 (-1))
    rw [World.size_alloc] at this; exact this
  have HZ2 : Hid (W2.heap.size = w1.heap.size + 2) := by show _ = _; rw [← hW2]; simp
  have HCF : Hid (Calls Try.prog 48 #[.slice (some ⟨bb, oo, none⟩) xss.length c, .func (.func 49) #[] #[.pointer (some ⟨w1.heap.size, 0, none⟩)]] W2
      fun e w' => e = .returned (.bool false) ∧ W2 = w') := by
    have h := containsRows_any 49 enters_level (.pointer (some ⟨w1.heap.size, 0, none⟩)) (unlikeK xss) (some ⟨bb, oo, none⟩) c xss.length V W2
      (fun i hi => by
        obtain ⟨_, b', o', e', hb', hc'⟩ := HX.out i hi
        exact ⟨b', o', e', Nat.lt_of_lt_of_le (Nat.lt_of_lt_of_le hb' HR1.out.bel.size) hB2.size, fun j hj => ((bcell (HR2.out.bel)).1 _ _ hb').trans (hc' j hj)⟩)
      (fun i hi => by obtain ⟨⟨ra', rc', hV', _⟩, _⟩ := HX.out i hi; rw [hV']; rfl) (by omega)
      (fun i hi => by
        obtain ⟨⟨ra', rc', hV', _⟩, _⟩ := HX.out i hi
        rw [hV']
        exact level1_any ra' _ rc' (rx xss 0).length w1.heap.size W2 BK.out.cell)
    rw [hU.out] at h
    exact h
  have b0' := HR2.out.box.cell (show 0 < 2 by omega); have b1' := HR2.out.box.cell (show 1 < 2 by omega)
  rw [← hW2] at b0' b1'
  have HW2 := Lib.hid hW2
  have HB2 := Lib.hid hB2
  clear hW2 hB2
  gi_wp2_with fail
  rw [HW2.out]
  clear b0 b1 b0' b1' hc0
  have b0 := HR2.out.box.cell (show 0 < 2 by omega); have b1 := HR2.out.box.cell (show 1 < 2 by omega)
  refine ⟨trivial, (callsIn_wide.2 HCF.out).mono ?_⟩
  rintro e w' ⟨rfl, rfl⟩
  clear HCF
  gi_wp2_with fail
  have HS := Lib.hid (sets_any n _ xss _ (HV.out.below HR2.out.bel) HDes.out)
  refine ⟨trivial, (callsIn_wide.2 HS.out).mono ?_⟩
  rintro e W3 ⟨sv, rfl, hown, hb3⟩
  have HR3 := Lib.hid (HR2.out.next hb3)
  have BK3 := Lib.hid (boxed_below BK.out hb3)
  have BL3 := Lib.hid (boxed_below BL.out hb3)
  obtain ⟨sa, sc, hsv⟩ := OwnU.shape hown
  rw [setsTo_len] at hsv
  subst hsv
  have HO3 := Lib.hid hown
  have hz3 := hb3.size
  clear HS hown hb3 b0 b1 BK BL HR1 HR2
  obtain ⟨W4, hW4⟩ : ∃ W4, W3.alloc (.cells #[Value.slice sa xss.length sc] 61) = W4 := ⟨_, rfl⟩
  have hB4 : Below W3.heap.size W3 W4 := by rw [← hW4]; exact (Below.refl _ _).alloc (Nat.le_refl _) _
  have HR4 := Lib.hid (HR3.out.next hB4)
  have BK4 := Lib.hid (boxed_below BK3.out hB4)
  have BL4 := Lib.hid (boxed_below BL3.out hB4)
  have HO4 := Lib.hid (ownU_below HO3.out hB4)
  have BA4 : Hid (Boxed W4 W3.heap.size 61 (.slice sa xss.length sc)) := by show Boxed _ _ _ _; rw [← hW4]; exact Boxed.new _ _ _
  have HZ4 : Hid (W4.heap.size = W3.heap.size + 1) := by show _ = _; rw [← hW4]; simp
  have b0 := HR4.out.box.cell (show 0 < 2 by omega)
  rw [← hW4] at b0
  have HW4 := Lib.hid hW4
  clear hW4 hB4 HR3 BK3 BL3 HO3
  gi_wp2_with fail
  rw [HW4.out]
  refine ⟨trivial, (callsIn_wide.2 (choices_any n t W4)).mono ?_⟩
  rintro e W5 ⟨rfl, hW5⟩
  have hB5 : Below W4.heap.size W4 W5 := by rw [hW5]; exact ((Below.refl _ _).alloc (Nat.le_refl _) _).alloc (by simp) _
  have HR5 := Lib.hid (HR4.out.next hB5)
  have BK5 := Lib.hid (boxed_below BK4.out hB5)
  have BL5 := Lib.hid (boxed_below BL4.out hB5)
  have HO5 := Lib.hid (ownU_below HO4.out hB5)
  have BA5 := Lib.hid (boxed_below BA4.out hB5)
  have BP5 : Hid (Boxed W5 W4.heap.size 3 (.int .i64 (n : Nat))) := by show Boxed _ _ _ _; rw [hW5]; exact (Boxed.new _ _ _).alloc _
  have BT5 : Hid (Boxed W5 (W4.heap.size + 1) 3 (.int .i64 (t : Nat))) := by
    show Boxed _ _ _ _; rw [hW5]
    have := Boxed.new (W4.alloc (.cells #[.int .i64 (n : Int)] 3)) 3 (.int .i64 (t : Int))
    rw [World.size_alloc] at this; exact this
  have HZ5 : Hid (W5.heap.size = W4.heap.size + 2) := by show _ = _; rw [hW5]; simp
  clear hW5 hB5 HR4 BK4 BL4 HO4 BA4 b0
  gi_wp2_with fail
  have hB5 : Below w.heap.size w W5 := HR5.out.bel
  have hz2 := HZ2.out; have hz4 := HZ4.out; have hz5 := HZ5.out
  refine wpIn_rangeFunc_ownF rfl (by omega) (gf := 59) (lb := #[.pointer (some ⟨W4.heap.size, 0, none⟩), .pointer (some ⟨W4.heap.size + 1, 0, none⟩)]) rfl trivial (enters_of Try.func59 (by kernel_rfl) rfl)
    (choices_stops 8 (w1.heap.size + 1) n t W4.heap.size (W4.heap.size + 1) hnn HT.out.1 W5 (by omega) (by omega) BP5.out BT5.out) (fun h k => h.trans k)
    (fun W l o o' hl ho hc hw => KeepsBut.of_grownBy (grownBy_putObj' W l o') (fun r e => by cases e; exact .inr ⟨o, ho, hc⟩)) (Below.refl _ _) (fun _ => rfl)
    (fun pre W => LevIn w xss (.slice sa xss.length sc) W2.heap.size w1.heap.size (w1.heap.size + 1) W3.heap.size pre W ∧ Below w.heap.size w W)
    (fun c pre W => LevOut w xss c pre W ∧ Below w.heap.size w W)
    (OwnFrom.and (Go.Own.from (fun s A B row hs hg hr => ⟨hs.same, boxed_keeps hs.lam hg hr, boxed_keeps hs.kk hg hr, boxed_keeps hs.all hg hr, hs.own.kept hg hr, boxed_keeps hs.k hg hr, boxed_keeps hs.l hg hr, boxed_keeps hs.e hg hr⟩) _) (ownFrom_below (Nat.le_refl _) (by omega)))
    (fun c => OwnFrom.and (Go.Own.from (fun s A B row hs hg hr => ⟨hs.ret, hs.same, boxed_keeps hs.k hg hr, boxed_keeps hs.l hg hr, boxed_keeps hs.e hg hr⟩) _) (ownFrom_below (Nat.le_refl _) (by omega)))
    ⟨⟨rfl, BL5.out, BK5.out, BA5.out, HO5.out, HR5.out.k, HR5.out.l, HR5.out.e⟩, hB5⟩
    ?a1 ?assign ?body ?done ?stop
  case assign =>
    intro l x W K hK
    gi_wp2
    exact hK
  case body =>
    rintro l pre x W ⟨hI, hB⟩ _
    have HB := Lib.hid hB
    have HI := Lib.hid hI
    have hT := capB_lt x
    clear hB hI hz2 hz4 hz5 hB5 HW2 HW4 HB2
    have cL := HI.out.lam.cell; have fL := HI.out.lam.frozen
    have cA := HI.out.all.cell
    have r1 := HI.out.k.cell; have r2 := HI.out.k.frozen; have r3 := HI.out.l.cell; have r4 := HI.out.l.frozen; have r5 := HI.out.e.cell; have r6 := HI.out.e.frozen
    gi_wp2
    gi_loop [12, 54] (fun m i => ∃ k : Nat, k ≤ xss.length ∧ i = .int .i64 k ∧ m = .int .i64 (cnt (hasM xss (capB x)) k : Nat)) (fun _ i => xss.length - (intOf i).toNat)
    case atStart => exact ⟨0, by omega, rfl, rfl⟩
    case round =>
      obtain ⟨k, hk, rfl, rfl⟩ := hrel
      have hcl := cnt_le (hasM xss (capB x)) k
      by_cases hlt : k < xss.length
      · obtain ⟨g, gc, eg, hg, hcell⟩ := HI.out.own.cell (i := k) (by rw [setsTo_len]; exact hlt)
        injection eg with eg1 eg2 eg3
        subst eg1
        rw [setsTo_get xss hlt] at hcell
        have hS := setOf_lt (HDes.out.all k hlt)
        have hp40 : 2 ^ n ≤ 2 ^ 40 := Nat.pow_le_pow_right (by omega) (by omega)
        have hand : (bits .and .u64 ((setOf (rx xss k) : Nat) : Int) ((capB x : Nat) : Int) == ((capB x : Nat) : Int)) = hasM xss (capB x) k := by
          rw [u64_and_nat _ _ (by omega) (by omega)]
          unfold hasM
          rw [Bool.eq_iff_iff, beq_iff_eq, beq_iff_eq]; omega
        have HCn : Hid (cnt (hasM xss (capB x)) (k + 1) = cnt (hasM xss (capB x)) k + if hasM xss (capB x) k then 1 else 0) := rfl
        clear eg2 eg3 hS hp40
        generalize setOf (rx xss k) = S at *
        generalize cnt (hasM xss (capB x)) k = C at *
        cases eh : hasM xss (capB x) k
        · rw [eh] at hand
          rw [eh] at HCn
          clear eh
          gi_wp2
          go_round
          case rel => exact ⟨k + 1, by omega, by go_num, by rw [HCn.out]; rfl⟩
          case measure => simp [intOf]; omega
        · rw [eh] at hand
          rw [eh] at HCn
          clear eh
          gi_wp2
          go_round
          case rel => exact ⟨k + 1, by omega, by go_num, by rw [HCn.out]; go_num⟩
          case measure => simp [intOf]; omega
      · obtain rfl : k = xss.length := by omega
        have HCx : Hid (lamC xss x = cnt (hasM xss (capB x)) xss.length) := rfl
        generalize cnt (hasM xss (capB x)) xss.length = C at *
        by_cases hp : pre = [] ∨ lamOf (lamC xss) pre = (lamC xss x : Int)
        · have HP := Lib.hid hp
          have hbody : ∀ W', W' = W.setCell ⟨w1.heap.size + 1, 0, none⟩ (.int .i64 (C : Nat)) → KeepsOthers W W' ∧ KeepsBut (w1.heap.size + 1) W W' ∧ LevIn w xss (.slice sa xss.length sc) W2.heap.size w1.heap.size (w1.heap.size + 1) W3.heap.size (pre ++ [x]) W' ∧ Below w.heap.size w W' := by
            rintro _ rfl
            have hz2 := HZ2.out; have hZ := HZ.out
            refine ⟨KeepsOthers.setCell _ _ _, KeepsBut.of_grownBy (grownBy_setCell' _ _ _) (fun r e => by cases e; exact .inl rfl), ⟨sameB_snoc HI.out.same HP.out, ?_, ?_, ?_, ?_, ?_, ?_, ?_⟩, HB.out.setCell (by show _ ≤ w1.heap.size + 1; omega) _⟩
            · rw [lamOf_snoc HP.out, HCx.out]; exact HI.out.lam.set _
            · exact HI.out.kk.kept (grownBy_setCell' _ _ _) (by simp)
            · exact HI.out.all.kept (grownBy_setCell' _ _ _) (by simp <;> omega)
            · exact ownsRow_setCell_below HI.out.own (by show w1.heap.size + 1 < _; omega) _
            · exact HI.out.k.kept (grownBy_setCell' _ _ _) (by simp <;> omega)
            · exact HI.out.l.kept (grownBy_setCell' _ _ _) (by simp <;> omega)
            · exact HI.out.e.kept (grownBy_setCell' _ _ _) (by simp <;> omega)
          have HBody := Lib.hid hbody
          clear hbody
          rcases hp with hp | hp
          · rw [hp] at cL
            have cL' : W.cell? ⟨w1.heap.size + 1, 0, none⟩ = some (.int .i64 (-1)) := cL
            clear hp cL
            gi_wp2
            exact HBody.out _ rfl
          · rw [hp, HCx.out] at cL
            clear hp
            have dn : (((C : Nat) : Int) != ((C : Nat) : Int)) = false := by simp
            gi_wp2
            exact HBody.out _ rfl
        · have HP := Lib.hid hp
          have hL0 : 0 ≤ lamOf (lamC xss) pre := lamOf_nonneg (fun e => hp (.inl e))
          have hdiff : (((C : Nat) : Int) != lamOf (lamC xss) pre) = true := by
            have := HCx.out
            simp only [bne_iff_ne, ne_eq]
            intro e; exact hp (.inr (by rw [this, e]))
          have hnot : sameB (lamC xss) (pre ++ [x]) = false := by
            cases pre with
            | nil => exact absurd (.inl rfl) hp
            | cons a pre => exact sameB_not (x := a) (y := x) (by simp) (by simp) (fun e => hp (.inr (by show ((lamC xss a : Nat) : Int) = _; rw [e])))
          have HN := Lib.hid hnot
          clear hp hnot
          generalize lamOf (lamC xss) pre = L0 at *
          have dL : decide (0 ≤ L0) = true := by simpa using hL0
          gi_wp2
          refine ⟨((KeepsOthers.setCell _ _ _).trans (KeepsOthers.setCell _ _ _)).trans (KeepsOthers.setCell _ _ _), ⟨rfl, HN.out, ?_, ?_, ?_⟩, ((HB.out.setCell (by show _ ≤ w.heap.size + 1; omega) _).setCell (by show _ ≤ w.heap.size + 1 + 1; omega) _).setCell (by show _ ≤ w.heap.size + 1 + 1 + 1; omega) _⟩
          · exact ((HI.out.k.set _).kept (grownBy_setCell' _ _ _) (by simp)).kept (grownBy_setCell' _ _ _) (by simp <;> omega)
          · exact ((HI.out.l.kept (grownBy_setCell' _ _ _) (by simp <;> omega)).set _).kept (grownBy_setCell' _ _ _) (by simp)
          · exact ((HI.out.e.kept (grownBy_setCell' _ _ _) (by simp <;> omega)).kept (grownBy_setCell' _ _ _) (by simp <;> omega)).set _
  case done =>
    rintro D ys W hD hys ⟨hI, hB⟩ hK
    have HY := Lib.hid hys
    have HB := Lib.hid hB
    have HI := Lib.hid hI
    have HK := Lib.hid hK
    clear hB hI hz2 hz4 hz5 hB5 HW2 HW4 HB2 hys hK
    have cL := HI.out.lam.cell
    have cK := HI.out.kk.cell
    have r1 := HI.out.k.cell; have r2 := HI.out.k.frozen; have r3 := HI.out.l.cell; have r4 := HI.out.l.frozen; have r5 := HI.out.e.cell; have r6 := HI.out.e.frozen
    gi_wp2
    obtain ⟨W6, hW6⟩ : ∃ W6, (((W.setCell ⟨w.heap.size + 1, 0, none⟩ (.int .i64 ((rx xss 0).length : Nat))).setCell ⟨w.heap.size + 1 + 1, 0, none⟩ (.int .i64 (lamOf (lamC xss) ys))).setCell ⟨w.heap.size + 1 + 1 + 1, 0, none⟩ (.int .i64 0)).drew = W6 := ⟨_, rfl⟩
    have hK6 : W6.heap[D]? = some (.deferred (some [])) := by
      rw [← hW6]
      exact ((((KeepsOthers.setCell _ _ _).trans (KeepsOthers.setCell _ _ _)).trans (KeepsOthers.setCell _ _ _)).trans (KeepsOthers.drew _)).same D _ HK.out rfl
    have hB6 : Below w.heap.size w W6 := by
      rw [← hW6]
      exact (((HB.out.setCell (by show _ ≤ w.heap.size + 1; omega) _).setCell (by show _ ≤ w.heap.size + 1 + 1; omega) _).setCell (by show _ ≤ w.heap.size + 1 + 1 + 1; omega) _).drew
    obtain ⟨W7, hW7⟩ : ∃ W7, ((W.setCell ⟨w.heap.size + 1, 0, none⟩ (.int .i64 ((rx xss 0).length : Nat))).setCell ⟨w.heap.size + 1 + 1, 0, none⟩ (.int .i64 (lamOf (lamC xss) ys))).setCell ⟨w.heap.size + 1 + 1 + 1, 0, none⟩ (.int .i64 0) = W7 := ⟨_, rfl⟩
    have c1 : Boxed W7 (w.heap.size + 1) 3 (.int .i64 ((rx xss 0).length : Nat)) := by
      rw [← hW7]; exact ((HI.out.k.set _).kept (grownBy_setCell' _ _ _) (by simp)).kept (grownBy_setCell' _ _ _) (by simp <;> omega)
    have c2 : Boxed W7 (w.heap.size + 1 + 1) 3 (.int .i64 (lamOf (lamC xss) ys)) := by
      rw [← hW7]; exact ((HI.out.l.kept (grownBy_setCell' _ _ _) (by simp <;> omega)).set _).kept (grownBy_setCell' _ _ _) (by simp)
    have c3 : Boxed W7 (w.heap.size + 1 + 1 + 1) 24 (.int .i64 0) := by
      rw [← hW7]; exact ((HI.out.e.kept (grownBy_setCell' _ _ _) (by simp <;> omega)).kept (grownBy_setCell' _ _ _) (by simp <;> omega)).set _
    have e67 : W6 = W7.drew := by rw [← hW6, ← hW7]
    have b1 : Boxed W6 (w.heap.size + 1) 3 (.int .i64 ((rx xss 0).length : Nat)) := by rw [e67]; exact c1
    have b2 : Boxed W6 (w.heap.size + 1 + 1) 3 (.int .i64 (lamOf (lamC xss) ys)) := by rw [e67]; exact c2
    have b3 : Boxed W6 (w.heap.size + 1 + 1 + 1) 24 (.int .i64 0) := by rw [e67]; exact c3
    clear hW7 c1 c2 c3 e67
    have hro : ∀ r, some D = some r → ∃ o : Obj, W6.heap[r]? = some o ∧ o.isCells = false := fun r e => by cases e; exact ⟨_, hK6, rfl⟩
    have g1 := (boxed_keeps b1 (grownBy_putObj' _ D (.deferred none)) hro).cell
    have g2 := (boxed_keeps b2 (grownBy_putObj' _ D (.deferred none)) hro).cell
    have g3 := (boxed_keeps b3 (grownBy_putObj' _ D (.deferred none)) hro).cell
    have hFin : sameB (lamC xss) (subsM n t 0 0) = true ∧ LevPost (rx xss 0).length (lamOf (lamC xss) (subsM n t 0 0)) 0 w (.returned (.tuple #[.int .i64 ((rx xss 0).length : Nat), .int .i64 (lamOf (lamC xss) ys), .int .i64 0])) (W6.putObj D (.deferred none)) := by
      have hs := HI.out.same
      rw [HY.out] at hs ⊢
      have hz2 := HZ2.out; have hz4 := HZ4.out; have hz5 := HZ5.out
      exact ⟨hs, rfl, hB6.trans (belowK_b (w := w) (Nat.le_refl _) W6 D _ _ (by omega) hK6 rfl rfl)⟩
    have HFin := Lib.hid hFin; have HK6 := Lib.hid hK6; have HW6 := Lib.hid hW6
    have HG := Lib.hid (And.intro g1 (And.intro g2 g3))
    clear hFin hK6 hW6 b1 b2 b3 hro g1 g2 g3 hB6
    gi_region
    all_goals
      gi_wp2
      rw [HW6.out]
      obtain ⟨g1, g2, g3⟩ := HG.out
      refine ⟨by simp, .inl ⟨_, _, rfl, run_takeDeferred HK6.out, ?_⟩⟩
      refine ⟨.tuple #[.int .i64 ((rx xss 0).length : Nat), .int .i64 (lamOf (lamC xss) ys), .int .i64 0], ?_, .inl HFin.out⟩
      simp [results, Try.f30, go_sem, g1, g2, g3]
  case stop =>
    rintro D c pre W hD hpre ⟨hI, hB⟩ hK
    obtain rfl := hI.ret
    have hro : ∀ r, some D = some r → ∃ o : Obj, W.heap[r]? = some o ∧ o.isCells = false := fun r e => by cases e; exact ⟨_, hK, rfl⟩
    have g1 := (boxed_keeps hI.k (grownBy_putObj' _ D (.deferred none)) hro).cell
    have g2 := (boxed_keeps hI.l (grownBy_putObj' _ D (.deferred none)) hro).cell
    have g3 := (boxed_keeps hI.e (grownBy_putObj' _ D (.deferred none)) hro).cell
    have hFin : sameB (lamC xss) (subsM n t 0 0) = false ∧ LevPost 0 0 4 w (.returned (.tuple #[.int .i64 0, .int .i64 0, .int .i64 4])) (W.putObj D (.deferred none)) :=
      ⟨same_pre hpre hI.same, rfl, hB.trans (belowK_b (w := w) (Nat.le_refl _) W D _ _ (by omega) hK rfl rfl)⟩
    have HFin := Lib.hid hFin; have HK := Lib.hid hK
    have HG := Lib.hid (And.intro g1 (And.intro g2 g3))
    clear hFin hK hB hI hro g1 g2 g3 hz2 hz4 hz5 hB5 HW2 HW4 HB2
    gi_wp2
    obtain ⟨g1, g2, g3⟩ := HG.out
    refine ⟨by simp, .inl ⟨_, _, rfl, run_takeDeferred HK.out, ?_⟩⟩
    refine ⟨.tuple #[.int .i64 0, .int .i64 0, .int .i64 4], ?_, .inr HFin.out⟩
    simp [results, Try.f30, go_sem, g1, g2, g3]

set_option maxRecDepth 100000 in
set_option maxHeartbeats 2000000 in
theorem level_uni (n t : Nat) (v : Value) (xss : List (List Int)) (w : World) (h : RowsAt w v xss) (hD : IsDes n xss) (ht : t ≤ 4 ∧ t ≤ n) (hx : 0 < xss.length) (hu : uniB xss = false) :
    Calls Try.prog 30 #[.agg #[.int .i64 n, v], .int .i64 t] w (LevPost 0 0 4 w) := by
  have HC := Lib.hid (check_any n v xss _ (h.below (levW_below n v w)))
  rw [hD.fault] at HC
  have HDes := Lib.hid hD
  have hn := hD.hi
  have hl := hD.few
  have HT := Lib.hid ht
  clear hD
  obtain ⟨a, c, V, rfl, h1, h2, _, h3⟩ := h
  have HX := Lib.hid h3; clear h3
  have HR := Lib.hid (levRel_new n (.slice a xss.length c) w)
  unfold levW at HC HR
  have hnn : n ≤ 40 := by omega
  have d1 : decide (((t : Nat) : Int) < 0) = false := by simp
  have d2 : decide (4 < ((t : Nat) : Int)) = false := by simp; omega
  have d2' : decide (4 < t) = false := by simp; omega
  have d3 : decide (n < t) = false := by simp; omega
  have d4 : (((xss.length : Nat) : Int) == 0) = false := by simp; intro e; subst e; simp at hx
  have hU : Hid (someN (unlikeK xss) xss.length = true) := by show _ = _; rw [uni_some] at hu; simpa using hu
  clear ht hu
  go_enter Try.func30, Try.ntmps30
  go_wp2_with fail
  refine (HC.out).mono ?_
  rintro e w1 ⟨rfl, hb⟩
  have HR1 := Lib.hid (HR.out.next hb)
  have hz := hb.size
  simp only [World.size_alloc] at hz
  clear hb HC HR
  have b0 := HR1.out.box.cell (show 0 < 2 by omega); have b1 := HR1.out.box.cell (show 1 < 2 by omega)
  obtain ⟨hrow0, bb, oo, rfl, hbl, hcc⟩ := HX.out 0 hx
  have hc0 := hcc 0 hx
  rw [← (bcell HR1.out.bel).1 _ _ hbl] at hc0
  obtain ⟨ra, rc, hV0, q1, q2, _, _⟩ := hrow0
  rw [hV0, Nat.add_zero] at hc0
  have hbl1 : bb < w1.heap.size := by omega
  have HZ : Hid (w.heap.size + 4 ≤ w1.heap.size) := by show _ ≤ _; omega
  clear hcc hV0
  obtain ⟨W2, hW2⟩ : ∃ W2, (w1.alloc (.cells #[.int .i64 ((rx xss 0).length : Nat)] 3)).alloc (.cells #[.int .i64 (-1)] 3) = W2 := ⟨_, rfl⟩
  have hB2 : Below w1.heap.size w1 W2 := by rw [← hW2]; exact ((Below.refl _ _).alloc (Nat.le_refl _) _).alloc (by simp) _
  have HR2 := Lib.hid (HR1.out.next hB2)
  have BK : Hid (Boxed W2 w1.heap.size 3 (.int .i64 ((rx xss 0).length : Nat))) := by show Boxed _ _ _ _; rw [← hW2]; exact (Boxed.new _ _ _).alloc _
  have BL : Hid (Boxed W2 (w1.heap.size + 1) 3 (.int .i64 (-1))) := by
    show Boxed _ _ _ _; rw [← hW2]
    have := Boxed.new (w1.alloc (.cells #[.int .i64 ((rx xss 0).length : Nat)] 3)) 3 (.int .i64 (-1))
    rw [World.size_alloc] at this; exact this
  have HZ2 : Hid (W2.heap.size = w1.heap.size + 2) := by show _ = _; rw [← hW2]; simp
  have HCF : Hid (Calls Try.prog 48 #[.slice (some ⟨bb, oo, none⟩) xss.length c, .func (.func 49) #[] #[.pointer (some ⟨w1.heap.size, 0, none⟩)]] W2
      fun e w' => e = .returned (.bool true) ∧ W2 = w') := by
    have h := containsRows_any 49 enters_level (.pointer (some ⟨w1.heap.size, 0, none⟩)) (unlikeK xss) (some ⟨bb, oo, none⟩) c xss.length V W2
      (fun i hi => by
        obtain ⟨_, b', o', e', hb', hc'⟩ := HX.out i hi
        exact ⟨b', o', e', Nat.lt_of_lt_of_le (Nat.lt_of_lt_of_le hb' HR1.out.bel.size) hB2.size, fun j hj => ((bcell (HR2.out.bel)).1 _ _ hb').trans (hc' j hj)⟩)
      (fun i hi => by obtain ⟨⟨ra', rc', hV', _⟩, _⟩ := HX.out i hi; rw [hV']; rfl) (by omega)
      (fun i hi => by
        obtain ⟨⟨ra', rc', hV', _⟩, _⟩ := HX.out i hi
        rw [hV']
        exact level1_any ra' _ rc' (rx xss 0).length w1.heap.size W2 BK.out.cell)
    rw [hU.out] at h
    exact h
  have b0' := HR2.out.box.cell (show 0 < 2 by omega); have b1' := HR2.out.box.cell (show 1 < 2 by omega)
  rw [← hW2] at b0' b1'
  have HW2 := Lib.hid hW2
  have HB2 := Lib.hid hB2
  clear hW2 hB2
  go_wp2_with fail
  rw [HW2.out]
  clear b0 b1 b0' b1' hc0
  have b0 := HR2.out.box.cell (show 0 < 2 by omega); have b1 := HR2.out.box.cell (show 1 < 2 by omega)
  refine (HCF.out).mono ?_
  rintro e w' ⟨rfl, rfl⟩
  clear HCF
  clear b0 b1
  obtain ⟨⟨k1, k2⟩, ⟨l1, l2⟩, e1, e2⟩ := HR2.out.cells
  go_wp2_with fail
  refine bodyPost_ret (v := .tuple #[.int .i64 0, .int .i64 0, .int .i64 4]) ?_ rfl ⟨rfl, HR2.out.stores 0 0 4⟩
  simp [results, Try.results30, go_sem, k1, l1, e1]

theorem lamC_eq {n : Nat} {xss : List (List Int)} (h : IsDes n xss) (P : List Nat) (hP : ∀ x ∈ P, x < n) : lamC xss (maskL 0 P) = lamP xss P := by
  unfold lamC
  have hn := h.hi
  rw [capB_of (n := n) (maskL_lt (Nat.two_pow_pos n) hP) (by omega)]
  exact lamM_mask h P
theorem riseL_lt {n : Nat} : ∀ {P : List Nat} {a : Nat}, RiseL n a P → ∀ x ∈ P, x < n
  | [], _, _, x, hx => by cases hx
  | y :: P, a, ⟨h1, h2, h3⟩, x, hx => by
    rcases List.mem_cons.1 hx with rfl | hx
    · exact h2
    · exact riseL_lt h3 x hx
theorem same_congr {α : Type} {f g : α → Nat} {L : List α} (h : ∀ x ∈ L, f x = g x) : sameB f L = sameB g L ∧ lamOf f L = lamOf g L := by
  cases L with
  | nil => exact ⟨rfl, rfl⟩
  | cons a L =>
    refine ⟨?_, by show ((f a : Nat) : Int) = ((g a : Nat) : Int); rw [h a (by simp)]⟩
    show (L.all fun x => f x == f a) = (L.all fun x => g x == g a)
    rw [h a (by simp)]
    rw [Bool.eq_iff_iff, List.all_eq_true, List.all_eq_true]
    constructor
    · intro k x hx; have := k x hx; rwa [h x (by simp [hx])] at this
    · intro k x hx; have := k x hx; rwa [h x (by simp [hx])]
theorem lamC_subs {n : Nat} {xss : List (List Int)} (h : IsDes n xss) (t : Nat) :
    sameB (lamC xss) (subsM n t 0 0) = sameB (lamP xss) (subsL n t 0) ∧ lamOf (lamC xss) (subsM n t 0 0) = lamOf (lamP xss) (subsL n t 0) := by
  unfold subsM
  rw [sameB_map, lamOf_map]
  exact same_congr fun P hP => lamC_eq h P (riseL_lt (mem_subsL.1 hP).2)

/-- design.Level: what it hands back of any design. -/
theorem level_any (n t : Int) (v : Value) (xss : List (List Int)) (w : World) (h : RowsAt w v xss) :
    Calls Try.prog 30 #[.agg #[.int .i64 n, v], .int .i64 t] w (LevPost (levK n xss t) (levL n xss t) (levE n xss t) w) := by
  have key : ∀ e0, levE n xss t = e0 → e0 ≠ 0 → Calls Try.prog 30 #[.agg #[.int .i64 n, v], .int .i64 t] w (LevPost 0 0 e0 w) →
      Calls Try.prog 30 #[.agg #[.int .i64 n, v], .int .i64 t] w (LevPost (levK n xss t) (levL n xss t) (levE n xss t) w) := by
    intro e0 he h0 hc
    unfold levK levL
    rw [he, if_neg h0, if_neg h0]; exact hc
  by_cases h1 : desFault n xss ≠ 0
  · exact key _ (by unfold levE; rw [if_pos h1]) h1 (level_fault n t v xss w h h1)
  · have h1' : desFault n xss = 0 := by simpa using h1
    by_cases h2 : t < 0 ∨ 4 < t ∨ n < t
    · exact key 1 (by unfold levE; rw [if_neg h1, if_pos h2]) (by decide) (level_range n t v xss w h h1' h2)
    · by_cases h3 : xss.length = 0
      · refine key 4 (by unfold levE; rw [if_neg h1, if_neg h2, if_pos h3]) (by decide) ?_
        obtain rfl := List.eq_nil_of_length_eq_zero h3
        exact level_none n t v w h h1' (by omega)
      · have hD := des_of h1'
        have := hD.lo
        obtain ⟨m, rfl⟩ := Int.eq_ofNat_of_zero_le (show 0 ≤ n by omega)
        obtain ⟨s, rfl⟩ := Int.eq_ofNat_of_zero_le (show 0 ≤ t by omega)
        by_cases h4 : uniB xss = false
        · exact key 4 (by unfold levE; rw [if_neg h1, if_neg h2, if_neg h3, if_pos h4]) (by decide) (level_uni m s v xss w h hD (by omega) (by omega) h4)
        · have h5 := lamC_subs hD s
          have hl := level_some m s v xss w h hD (by omega) (by omega) (by simpa using h4)
          rw [h5.1, h5.2] at hl
          by_cases h6 : sameB (lamP xss) (subsL m s 0) = false
          · refine key 4 (by unfold levE; rw [if_neg h1, if_neg h2, if_neg h3, if_neg h4, Int.toNat_natCast, Int.toNat_natCast, if_pos h6]) (by decide) (hl.mono ?_)
            rintro e w' (⟨g1, g2⟩ | ⟨g1, g2⟩)
            · rw [h6] at g1; cases g1
            · exact g2
          · have he : levE m xss s = 0 := by unfold levE; rw [if_neg h1, if_neg h2, if_neg h3, if_neg h4, Int.toNat_natCast, Int.toNat_natCast, if_neg h6]
            unfold levK levL
            rw [he, if_pos rfl, if_pos rfl, Int.toNat_natCast, Int.toNat_natCast]
            refine hl.mono ?_
            rintro e w' (⟨g1, g2⟩ | ⟨g1, g2⟩)
            · exact g2
            · exact absurd g1 h6
end Go.Proofs.Ytnmgambilpoeiaa
