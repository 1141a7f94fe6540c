/-
  Contract: quasi.names looks for the first names that go on. No condition.
-/
import Derived.Test.YtkmfhnjadpdkeaaNamLaw
import Derived.Test.YtkmfhnjadpdkeaaStepOwn
import Derived.Deep.MidRow
namespace Go.Proofs.Ytkmfhnjadpdkeaa
open Go.RowKit

def NamPost (o : Option (List Int)) (w : World) (e : Ending) (w' : World) : Prop :=
  match o with
  | some ys => ∃ a l c, e = .returned (.slice (some a) l c) ∧ IntsAt w' (.slice (some a) l c) ys ∧ Below w.heap.size w w'
  | none => e = .returned (.slice none 0 0) ∧ Below w.heap.size w w'
def namF (n : Nat) (xs ys : List Int) (l : Nat) (out : List Int) (x : Nat) : Option (List Int) := if mem out (x : Int) then none else firR n (namB n xs ys) l (out ++ [(x : Int)])
theorem rangeAt_nums {w : World} {b n : Nat} {f : Nat → Int} (h : Nums w b n f) : w.rangeAt b 0 (rowOf n f) := by
  intro j v hj
  have hl : j < n := by
    have := (List.getElem?_eq_some_iff.1 hj).1
    rwa [rowOf_len] at this
  rw [Nat.zero_add, Arr.cell h hl]
  unfold rowOf at hj
  rw [List.getElem?_map, List.getElem?_range hl] at hj
  exact hj
/-- The two tables as they were boxed. -/
def Tabs (W w : World) (f g : Nat → Int) : Prop := Nums W w.heap.size 65 f ∧ Nums W (w.heap.size + 1) 65 g ∧ Below w.heap.size w W
theorem Tabs.new (w : World) (f g : Nat → Int) (t : TypeId) : Tabs ((w.alloc (.cells (rowOf 65 f).toArray t)).alloc (.cells (rowOf 65 g).toArray t)) w f g := by
  refine ⟨Arr.alloc (nums_row w 65 f t) _, ?_, (below_box w _).trans ((below_box _ _).mono (by simp))⟩
  have := nums_row (w.alloc (.cells (rowOf 65 f).toArray t)) 65 g t
  rwa [World.size_alloc] at this
theorem Tabs.below {W W' w : World} {f g : Nat → Int} (h : Tabs W w f g) (hb : Below W.heap.size W W') : Tabs W' w f g :=
  ⟨Arr.below h.1 hb, Arr.below h.2.1 hb, h.2.2.trans (hb.mono h.2.2.size)⟩
theorem Tabs.drewN {W w : World} {f g : Nat → Int} (h : Tabs W w f g) (n : Nat) : Tabs (W.drewN n) w f g := h.below (below_D _ _)
theorem Tabs.grown {W W' w : World} {f g : Nat → Int} (h : Tabs W w f g) {row : Option Nat} (hg : W.grownBy W' row) (hr : ∀ k, row = some k → w.heap.size + 2 ≤ k) : Tabs W' w f g := by
  have hz : w.heap.size + 2 ≤ W.heap.size := by have := h.2.1.lt; omega
  have hb : Below (w.heap.size + 2) W W' := (Below.refl _ _).grown hg hz hr
  exact ⟨Arr.belowB h.1 hb (by omega), Arr.belowB h.2.1 hb (by omega), h.2.2.trans (hb.mono (by omega))⟩
theorem Tabs.size {W w : World} {f g : Nat → Int} (h : Tabs W w f g) : w.heap.size + 2 ≤ W.heap.size := by have := h.2.1.lt; omega

/-- The contract, of lists that lack l numbers. -/
def NamesOK (n : Nat) (xs ys : List Int) (l : Nat) : Prop := ∀ (v : Value) (out : List Int) (w : World), out.length + l = n → IntsAt w v out → (0 < out.length ∨ v = .slice none 0 0) →
    (∀ k, k < out.length → 0 ≤ ix out k ∧ ix out k < n) →
    Calls Try.prog 67 #[.agg (rowOf 65 (tfill n xs xs.length)).toArray, .agg (rowOf 65 (tfill n ys ys.length)).toArray, v] w (NamPost (firR n (namB n xs ys) l out) w)
theorem firR_no {n : Nat} {xs ys out : List Int} (h : namB n xs ys out = false) : ∀ l, firR n (namB n xs ys) l out = none
  | 0 => by rw [firR, oneO, h]; rfl
  | l + 1 => by rw [firR, h]; rfl
theorem firR_end {n : Nat} {xs ys out : List Int} (h : namB n xs ys out = true) : firR n (namB n xs ys) 0 out = some out := by rw [firR, oneO, h]; rfl
theorem firR_on {n : Nat} {xs ys out : List Int} (h : namB n xs ys out = true) (l : Nat) : firR n (namB n xs ys) (l + 1) out = fsome (namF n xs ys l out) n := by rw [firR, h]; rfl
theorem namB_hit {n : Nat} {xs ys out : List Int} {x y : Nat} (hx : x < out.length) (hy : y < out.length) (h : namP n xs ys out x y = false) : namB n xs ys out = false :=
  allTo_hit hx (allTo_hit hy h)

set_option maxRecDepth 100000 in
set_option maxHeartbeats 4000000 in
theorem names_step (n : Nat) (xs ys : List Int) (hx : IsLatin n xs) (hy : IsLatin n ys) (l : Nat) (ih : ∀ l', l = l' + 1 → NamesOK n xs ys l') : NamesOK n xs ys l := by
  have hn8 : n ≤ 8 := by have := hx.hi; omega
  have hn1 : 1 ≤ n := by have := hx.lo; omega
  have HLX := Lib.hid hx; have HLY := Lib.hid hy
  clear hx hy
  intro v out w hl hI hv hu
  have IH := Lib.hid ih; clear ih
  have HI := Lib.hid hI
  have HU := Lib.hid hu
  have HV := Lib.hid hv
  have HT := Lib.hid (Tabs.new w (tfill n xs xs.length) (tfill n ys ys.length) 60)
  have HFn := Lib.hid (fun h => @firR_no n xs ys out h l)
  obtain ⟨a, c, rfl, h1, h2, _, h3⟩ := hI
  have HX := Lib.hid h3
  clear hv hu h3
  go_enter Try.func67, Try.ntmps67
  go_wp2_with fail
  go_loopw [14] (fun sx wr => ∃ x : Nat, x ≤ out.length ∧ sx = .int .i64 x ∧ allTo (namX n xs ys out) x = true ∧ Tabs wr w (tfill n xs xs.length) (tfill n ys ys.length)) (fun sx _ => out.length - (intOf sx).toNat)
  case atStart => exact ⟨0, by omega, rfl, rfl, HT.out⟩
  case round =>
    clear HT
    obtain ⟨x, hx, rfl, hA, hT⟩ := hrel
    have HA := Lib.hid hA
    have HT := Lib.hid hT
    clear hA hT
    by_cases hlt : x < out.length
    · go_wp2_with fail
      go_loopw [19] (fun sy wr => ∃ y : Nat, y ≤ out.length ∧ sy = .int .i64 y ∧ allTo (namP n xs ys out x) y = true ∧ Tabs wr w (tfill n xs xs.length) (tfill n ys ys.length)) (fun sy _ => out.length - (intOf sy).toNat)
      case atStart => exact ⟨0, by omega, rfl, rfl, HT.out⟩
      case round =>
        clear HT
        obtain ⟨y, hy, rfl, hA, hT⟩ := hrel
        have HA2 := Lib.hid hA
        have HT := Lib.hid hT
        have hT1 := hT.1
        have hT2 := hT.2.1
        clear hA
        by_cases hly : y < out.length
        · have hxn : x < n := by omega
          have hyn : y < n := by omega
          have hx8 : x < 8 := by omega
          have hx9 : (x : Int) < 8 := by omega
          have hy8 : y < 8 := by omega
          have hy9 : (y : Int) < 8 := by omega
          have c1 := tab_qn HLX.out hT1 hxn hyn
          have hzn := qn_lt HLX.out hxn hyn
          have HP : Hid (namP n xs ys out x y = (!decide (qn n xs x y < out.length) || qn n ys (pn out x) (pn out y) == pn out (qn n xs x y))) := rfl
          obtain ⟨b, o, rfl, hbb, hcc⟩ := HX.out x hlt
          have hux := HU.out x hlt
          have huy := HU.out y hly
          have cx := hcc x hlt
          have cy := hcc y hly
          rw [← (bcell hT.2.2).1 _ _ hbb] at cx cy
          have epx : ix out x = (pn out x : Nat) := by unfold pn; omega
          have epy : ix out y = (pn out y : Nat) := by unfold pn; omega
          rw [epx] at cx; rw [epy] at cy
          have hpx : pn out x < n := by omega
          have hpy : pn out y < n := by omega
          have c2 := tab_qn HLY.out hT2 hpx hpy
          have HZ : Hid (∀ z, z < out.length → wr.cell? ⟨b, o + z, none⟩ = some (.int .i64 (pn out z : Nat))) := fun z hz => by
            rw [(bcell hT.2.2).1 _ _ hbb, hcc z hz]
            have := HU.out z hz
            have e : ix out z = (pn out z : Nat) := by unfold pn; omega
            rw [e]
          clear hcc epx epy hux huy hT hT1 hT2
          generalize hz : qn n xs x y = z at *
          clear hz
          by_cases hzl : z < out.length
          · have c3 := HZ.out z hzl
            have hp8 : pn out x < 8 := by omega
            have hp9 : ((pn out x : Nat) : Int) < 8 := by omega
            have hq8 : pn out y < 8 := by omega
            have hq9 : ((pn out y : Nat) : Int) < 8 := by omega
            have i1 : ((x : Nat) : Int) < ((out.length : Nat) : Int) := by omega
            have i2 : ((y : Nat) : Int) < ((out.length : Nat) : Int) := by omega
            have i3 : ((z : Nat) : Int) < ((out.length : Nat) : Int) := by omega
            have d1 : decide (z < out.length) = true := by simpa using hzl
            rw [d1] at HP
            generalize pn out x = px at *
            generalize pn out y = py at *
            generalize pn out z = pz at *
            generalize hq : qn n ys px py = q at *
            clear hq
            have ed : (((q : Nat) : Int) != ((pz : Nat) : Int)) = !(q == pz) := by rw [Bool.eq_iff_iff]; simp; omega
            cases e : (q == pz)
            · rw [e] at ed HP
              have HF : Hid (firR n (namB n xs ys) l out = none) := HFn.out (namB_hit hlt hly (by rw [HP.out]; rfl))
              clear e
              go_wp2_with fail
              go_quiet (fail)
              go_wp2_with fail
              go_ret
              rw [HF.out]
              exact ⟨rfl, (HT.out.drewN _).2.2⟩
            · rw [e] at ed HP
              clear e
              go_wp2_with fail
              go_quiet (fail)
              go_wp2_with fail
              go_roundw
              case rel => exact ⟨y + 1, by omega, by go_num, by rw [allTo, HA2.out, HP.out]; rfl, HT.out.drewN _⟩
              case measure => simp [intOf]; omega
          · have d1 : decide (z < out.length) = false := by simpa using hzl
            rw [d1] at HP
            go_wp2_with fail
            go_quiet (fail)
            go_wp2_with fail
            go_roundw
            case rel => exact ⟨y + 1, by omega, by go_num, by rw [allTo, HA2.out, HP.out]; rfl, HT.out.drewN _⟩
            case measure => simp [intOf]; omega
        · obtain rfl : y = out.length := by omega
          have HAx : Hid (namX n xs ys out x = true) := HA2.out
          clear hT1 hT2 hT
          go_wp2_with fail
          go_roundw
          case rel => exact ⟨x + 1, by omega, by go_num, by rw [allTo, HA.out, HAx.out]; rfl, HT.out⟩
          case measure => simp [intOf]; omega
    · obtain rfl : x = out.length := by omega
      have HB : Hid (namB n xs ys out = true) := HA.out
      have hT := HT.out
      have c0 := tab_side hT.1
      clear hT
      cases l with
      | zero =>
        have hln : out.length = n := by omega
        have hne : (((out.length : Nat) : Int) == (n : Int)) = true := by rw [hln]; simp
        obtain ⟨b, o, rfl⟩ := HI.out.some (by omega)
        have HR : Hid (firR n (namB n xs ys) 0 out = some out) := firR_end HB.out
        clear hln
        go_wp2_with fail
        go_ret
        rw [HR.out]
        exact ⟨_, _, _, rfl, HI.out.below HT.out.2.2, HT.out.2.2⟩
      | succ l =>
        have hne : (((out.length : Nat) : Int) == (n : Int)) = false := by simp; omega
        have HR : Hid (firR n (namB n xs ys) (l + 1) out = fsome (namF n xs ys l out) n) := firR_on HB.out l
        have IH1 := Lib.hid (IH.out l rfl)
        clear IH HFn
        go_wp2_with fail
        clear c0
        go_loopw [61] (fun sk wr => ∃ k : Nat, k ≤ n ∧ sk = .int .i64 k ∧ fsome (namF n xs ys l out) k = none ∧ Tabs wr w (tfill n xs xs.length) (tfill n ys ys.length)) (fun sk _ => n - (intOf sk).toNat)
        case atStart => exact ⟨0, by omega, rfl, rfl, HT.out⟩
        case round =>
          clear HT HA
          obtain ⟨k, hk, rfl, hN, hT⟩ := hrel
          have HN := Lib.hid hN
          have HT := Lib.hid hT
          clear hN hT
          by_cases hlt : k < n
          · have HIr := Lib.hid (HI.out.below HT.out.2.2)
            have HCt := Lib.hid (contains_any (k : Int) _ _ wr HIr.out)
            cases em : mem out (k : Int)
            · rw [em] at HCt
              have HF : Hid (namF n xs ys l out k = firR n (namB n xs ys) l (out ++ [(k : Int)])) := by show _ = _; unfold namF; rw [em]; rfl
              clear em
              go_wp2_with fail
              refine (HCt.out).mono ?_
              rintro e w' ⟨rfl, rfl⟩
              go_wp2_with fail
              have HCl : Hid (∀ W, IntsAt W (.slice a out.length c) out → Calls Try.prog 72 #[.slice a out.length c] W (ClonePost out W)) := fun W hW => clone_both _ out W hW HV.out (by omega)
              have HRec : Hid (∀ v' W, Own W (w.heap.size + 2) 3 v' (out ++ [(k : Int)]) → Calls Try.prog 67 #[.agg (rowOf 65 (tfill n xs xs.length)).toArray, .agg (rowOf 65 (tfill n ys ys.length)).toArray, v'] W (NamPost (firR n (namB n xs ys) l (out ++ [(k : Int)])) W)) := fun v' W hO => by
                refine IH1.out v' _ W (by simp; omega) (hO.intsAt (by simp; omega)) (.inl (by simp)) ?_
                intro q hq
                rw [List.length_append, List.length_singleton] at hq
                by_cases e : q = out.length
                · subst e
                  have : ix (out ++ [(k : Int)]) out.length = k := by unfold ix; simp
                  rw [this]; omega
                · have : ix (out ++ [(k : Int)]) q = ix out q := by unfold ix; rw [List.getD_eq_getElem?_getD, List.getD_eq_getElem?_getD, List.getElem?_append_left (by omega)]
                  rw [this]; exact HU.out q (by omega)
              have HIb := Lib.hid (HIr.out.below (below_box wr (.cells #[.int .i64 k] 3)))
              have HTd := Lib.hid (HT.out.drewN 1)
              have HTb : Hid (Tabs (wr.drew.alloc (.cells #[.int .i64 k] 3)) w (tfill n xs xs.length) (tfill n ys ys.length)) := HTd.out.below (below_box wr.drew _)
              have HXb : Hid ((wr.alloc (.cells #[.int .i64 k] 3)).cell? ⟨wr.heap.size, 0, none⟩ = some (.int .i64 k)) := World.cell?_alloc_new wr #[.int .i64 k] 3 0
              have HLb := Lib.hid (lt_box wr (.cells #[.int .i64 k] 3))
              have HL9 : Hid (out.length < 1000000000) := by show _ < _; omega
              have HS : Hid (∀ W, Tabs W w (tfill n xs xs.length) (tfill n ys ys.length) → W.rangeAt w.heap.size 0 (rowOf 65 (tfill n xs xs.length)) ∧ W.rangeAt (w.heap.size + 1) 0 (rowOf 65 (tfill n ys ys.length))) := fun W hW => ⟨rangeAt_nums hW.1, rangeAt_nums hW.2.1⟩
              cases eg : firR n (namB n xs ys) l (out ++ [(k : Int)])
              all_goals
                rw [eg] at HRec HF
                clear eg
                have hu60 := Try.underlying60
                have hiA : (Try.prog.info? 60).map (·.size) = some (rowOf 65 (tfill n xs xs.length)).length := by rw [rowOf_len]; kernel_rfl
                have hiB : (Try.prog.info? 60).map (·.size) = some (rowOf 65 (tfill n ys ys.length)).length := by rw [rowOf_len]; kernel_rfl
                have hlA := rowOf_len 65 (tfill n xs xs.length)
                have hlB := rowOf_len 65 (tfill n ys ys.length)
                have hoA := rowOf_one 65 (tfill n xs xs.length)
                have hoB := rowOf_one 65 (tfill n ys ys.length)
                refine wp_region_noPanic ?_
                refine wp_region_held_drew (S := fun w' => w'.rangeAt w.heap.size 0 (rowOf 65 (tfill n xs xs.length)) ∧ w'.rangeAt (w.heap.size + 1) 0 (rowOf 65 (tfill n ys ys.length))) (by kernel_rfl) (HS.out wr HT.out) (fun hHeld => ?_)
                refine wpAnyH_take (i := 0) (oi := ⟨some 67, .load 60 (.tmp 3), 60, "quasi.go:151", #[], none⟩) (v := .agg (rowOf 65 (tfill n xs xs.length)).toArray) rfl (by kernel_rfl) (by kernel_rfl) (by kernel_rfl) (fun _ _ _ h => h) (yieldsIf_load_mid (by rfl) _ _ rfl _ _ rfl (rowOf 65 (tfill n xs xs.length)) _ (fun W hW => hW.1) hu60 rfl hiA) hHeld ?_
                try simp only [Act.put, List.setIfInBounds_toArray, List.set_cons_zero, List.set_cons_succ]
                refine wpAnyH_take (i := 1) (oi := ⟨some 68, .load 60 (.tmp 4), 60, "quasi.go:151", #[], none⟩) (v := .agg (rowOf 65 (tfill n ys ys.length)).toArray) rfl (by kernel_rfl) (by kernel_rfl) (by kernel_rfl) (fun _ _ _ h => h) (yieldsIf_load_mid (by rfl) _ _ rfl _ _ rfl (rowOf 65 (tfill n ys ys.length)) _ (fun W hW => hW.2) hu60 rfl hiB) hHeld ?_
                try simp only [Act.put, List.setIfInBounds_toArray, List.set_cons_zero, List.set_cons_succ]
                clear hu60 hiA hiB hlA hlB hoA hoB
                refine wpAnyH_take (i := 2) (oi := ⟨some 69, .move (.tmp 2), 22, "quasi.go:151", #[], none⟩) (v := ?_) rfl (by kernel_rfl) (by kernel_rfl) (by kernel_rfl) (fun _ _ _ h => h) (Or.inl ⟨by rfl, ?_⟩) (by assumption) ?_
                rotate_left
                · intro w hSw
                  go_simp
                  with_reducible rfl
                try simp only [Act.put, List.setIfInBounds_toArray, List.set_cons_zero, List.set_cons_succ]
                refine wpAnyH_take (i := 4) (oi := ⟨some 71, .move (.tmp 10), 3, "quasi.go:151", #[], none⟩) (v := ?_) rfl (by kernel_rfl) (by kernel_rfl) (by kernel_rfl) (fun _ _ _ h => h) (Or.inl ⟨by rfl, ?_⟩) (by assumption) ?_
                rotate_left
                · intro w hSw
                  go_simp
                  with_reducible rfl
                try simp only [Act.put, List.setIfInBounds_toArray, List.set_cons_zero, List.set_cons_succ]
              · refine wpAnyH_ready (rs := [3, 5]) (by kernel_rfl) (by simp) ?_
                refine AllReadyH.cons (o := ⟨some 70, .call { callee := .value (.func 72), args := #[.tmp 69], argTypes := #[22] }, 22, "quasi.go:151", #[⟨2, .data⟩], none⟩) rfl (fun K hK => ?_) ?_
                · go_simp
                  refine (HCl.out wr.drew HIr.out).mono ?_
                  rintro e w2 ⟨cv, rfl, hown, hb⟩
                  have HT2 := Lib.hid (HTd.out.below hb)
                  have HO2 := Lib.hid (hown.base HTd.out.size)
                  obtain ⟨ca, cl, cc, rfl⟩ := hown.shape
                  clear hown hb
                  go_simp
                  refine hK.out _ _ (HS.out w2 HT2.out) (fun hHeld => ?_)
                  clear hK K
                  try simp only [Act.put, List.setIfInBounds_toArray, List.set_cons_zero, List.set_cons_succ]
                  refine wpAnyH_ready (rs := [5]) (by kernel_rfl) (by simp) ?_
                  refine AllReadyH.cons (o := ⟨some 72, .buildSlice 22 1 #[(0, .tmp 71)], 22, "quasi.go:151", #[⟨4, .data⟩], none⟩) rfl (fun K hK => ?_) AllReadyH.nil
                  go_simp
                  refine hK.out _ _ (HS.out (w2.alloc _) (HT2.out.below (below_box _ _))) (fun hHeld => ?_)
                  clear hK K
                  try simp only [Act.put, List.setIfInBounds_toArray, List.set_cons_zero, List.set_cons_succ]
                  refine wpAnyH_ready (rs := [6]) (by kernel_rfl) (by simp) ?_
                  refine AllReadyH.cons (o := ⟨some 73, .call { callee := .builtin .append, args := #[.tmp 70, .tmp 72], argTypes := #[22, 22] }, 22, "quasi.go:151", #[⟨3, .data⟩, ⟨5, .data⟩, ⟨3, .chain⟩], none⟩) rfl (fun K hK => ?_) AllReadyH.nil
                  refine step_ints (by rfl) _ _ (by rfl) (by rfl) (HO2.out.alloc _) w2.heap.size (by rfl) (World.cell?_alloc_new w2 _ _ 0) HL9.out (HT2.out.below (below_box _ _)).size ?_
                  intro v' w3 hown3 hgrow3
                  have HT3 := Lib.hid ((HT2.out.below (below_box _ _)).grown hgrow3 (fun q hq => (HO2.out.block q hq).1))
                  have HO3 := Lib.hid hown3
                  obtain ⟨ca3, cl3, cc3, rfl⟩ := hown3.shape
                  clear hown3 hgrow3
                  refine hK.out _ _ (HS.out w3 HT3.out) (fun hHeld => ?_)
                  clear hK K
                  try simp only [Act.put, List.setIfInBounds_toArray, List.set_cons_zero, List.set_cons_succ]
                  refine wpAnyH_ready (rs := [7]) (by kernel_rfl) (by simp) ?_
                  refine AllReadyH.cons (o := ⟨some 74, .call { callee := .value (.func 67), args := #[.tmp 67, .tmp 68, .tmp 73], argTypes := #[60, 60, 22] }, 22, "quasi.go:151", #[⟨0, .data⟩, ⟨1, .data⟩, ⟨6, .data⟩, ⟨6, .chain⟩], none⟩) rfl (fun K hK => ?_) AllReadyH.nil
                  go_simp
                  refine (HRec.out _ _ HO3.out).mono ?_
                  intro e w4 hp
                  obtain ⟨rfl, hb⟩ := hp
                  have HT4 := Lib.hid (HT3.out.below hb)
                  clear hb
                  go_simp
                  refine hK.out _ _ (HS.out w4 HT4.out) (fun hHeld => ?_)
                  clear hK K
                  try simp only [Act.put, List.setIfInBounds_toArray, List.set_cons_zero, List.set_cons_succ]
                  refine wpAnyH_take (i := 8) (oi := ⟨some 11, .assign (.tmp 74), 22, "quasi.go:151", #[⟨7, .data⟩, ⟨7, .chain⟩, ⟨0, .phase⟩, ⟨1, .phase⟩, ⟨2, .phase⟩, ⟨3, .phase⟩, ⟨4, .phase⟩, ⟨5, .phase⟩, ⟨6, .phase⟩, ⟨7, .phase⟩], none⟩) (v := ?_) rfl (by kernel_rfl) (by kernel_rfl) (by kernel_rfl) (fun _ _ _ h => h) (Or.inl ⟨by rfl, ?_⟩) (by assumption) ?_
                  rotate_left
                  · intro w hSw
                    go_simp
                    with_reducible rfl
                  try simp only [Act.put, List.setIfInBounds_toArray, List.set_cons_zero, List.set_cons_succ]
                  refine wpAnyH_done (by kernel_rfl) ?_ _
                  refine NoPanic.normal ?_
                  go_wp2_with fail
                  go_roundw
                  case rel => exact ⟨k + 1, by omega, by go_num, by rw [fsome_next HN.out, HF.out], HT4.out⟩
                  case measure => simp [intOf]; omega
                refine AllReadyH.cons (o := ⟨some 72, .buildSlice 22 1 #[(0, .tmp 71)], 22, "quasi.go:151", #[⟨4, .data⟩], none⟩) rfl (fun K hK => ?_) AllReadyH.nil
                go_simp
                refine hK.out _ _ (HS.out (wr.drew.alloc _) HTb.out) (fun hHeld => ?_)
                clear hK K
                try simp only [Act.put, List.setIfInBounds_toArray, List.set_cons_zero, List.set_cons_succ]
                refine wpAnyH_ready (rs := [3]) (by kernel_rfl) (by simp) ?_
                refine AllReadyH.cons (o := ⟨some 70, .call { callee := .value (.func 72), args := #[.tmp 69], argTypes := #[22] }, 22, "quasi.go:151", #[⟨2, .data⟩], none⟩) rfl (fun K hK => ?_) AllReadyH.nil
                go_simp
                refine (HCl.out (wr.drew.alloc (.cells #[.int .i64 k] 3)) HIb.out).mono ?_
                rintro e w2 ⟨cv, rfl, hown, hb⟩
                have HT2 := Lib.hid (HTb.out.below hb)
                have HO2 := Lib.hid (hown.base HTb.out.size)
                have HX2 := Lib.hid (keep_cell hb HLb.out HXb.out)
                obtain ⟨ca, cl, cc, rfl⟩ := hown.shape
                clear hown hb
                go_simp
                refine hK.out _ _ (HS.out w2 HT2.out) (fun hHeld => ?_)
                clear hK K
                try simp only [Act.put, List.setIfInBounds_toArray, List.set_cons_zero, List.set_cons_succ]
                refine wpAnyH_ready (rs := [6]) (by kernel_rfl) (by simp) ?_
                refine AllReadyH.cons (o := ⟨some 73, .call { callee := .builtin .append, args := #[.tmp 70, .tmp 72], argTypes := #[22, 22] }, 22, "quasi.go:151", #[⟨3, .data⟩, ⟨5, .data⟩, ⟨3, .chain⟩], none⟩) rfl (fun K hK => ?_) AllReadyH.nil
                refine step_ints (by rfl) _ _ (by rfl) (by rfl) HO2.out wr.heap.size (by rfl) HX2.out HL9.out HT2.out.size ?_
                intro v' w3 hown3 hgrow3
                have HT3 := Lib.hid (HT2.out.grown hgrow3 (fun q hq => (HO2.out.block q hq).1))
                have HO3 := Lib.hid hown3
                obtain ⟨ca3, cl3, cc3, rfl⟩ := hown3.shape
                clear hown3 hgrow3
                refine hK.out _ _ (HS.out w3 HT3.out) (fun hHeld => ?_)
                clear hK K
                try simp only [Act.put, List.setIfInBounds_toArray, List.set_cons_zero, List.set_cons_succ]
                refine wpAnyH_ready (rs := [7]) (by kernel_rfl) (by simp) ?_
                refine AllReadyH.cons (o := ⟨some 74, .call { callee := .value (.func 67), args := #[.tmp 67, .tmp 68, .tmp 73], argTypes := #[60, 60, 22] }, 22, "quasi.go:151", #[⟨0, .data⟩, ⟨1, .data⟩, ⟨6, .data⟩, ⟨6, .chain⟩], none⟩) rfl (fun K hK => ?_) AllReadyH.nil
                go_simp
                refine (HRec.out _ _ HO3.out).mono ?_
                intro e w4 hp
                obtain ⟨rfl, hb⟩ := hp
                have HT4 := Lib.hid (HT3.out.below hb)
                clear hb
                go_simp
                refine hK.out _ _ (HS.out w4 HT4.out) (fun hHeld => ?_)
                clear hK K
                try simp only [Act.put, List.setIfInBounds_toArray, List.set_cons_zero, List.set_cons_succ]
                refine wpAnyH_take (i := 8) (oi := ⟨some 11, .assign (.tmp 74), 22, "quasi.go:151", #[⟨7, .data⟩, ⟨7, .chain⟩, ⟨0, .phase⟩, ⟨1, .phase⟩, ⟨2, .phase⟩, ⟨3, .phase⟩, ⟨4, .phase⟩, ⟨5, .phase⟩, ⟨6, .phase⟩, ⟨7, .phase⟩], none⟩) (v := ?_) rfl (by kernel_rfl) (by kernel_rfl) (by kernel_rfl) (fun _ _ _ h => h) (Or.inl ⟨by rfl, ?_⟩) (by assumption) ?_
                rotate_left
                · intro w hSw
                  go_simp
                  with_reducible rfl
                try simp only [Act.put, List.setIfInBounds_toArray, List.set_cons_zero, List.set_cons_succ]
                refine wpAnyH_done (by kernel_rfl) ?_ _
                refine NoPanic.normal ?_
                go_wp2_with fail
                go_roundw
                case rel => exact ⟨k + 1, by omega, by go_num, by rw [fsome_next HN.out, HF.out], HT4.out⟩
                case measure => simp [intOf]; omega
              · refine wpAnyH_ready (rs := [3, 5]) (by kernel_rfl) (by simp) ?_
                refine AllReadyH.cons (o := ⟨some 70, .call { callee := .value (.func 72), args := #[.tmp 69], argTypes := #[22] }, 22, "quasi.go:151", #[⟨2, .data⟩], none⟩) rfl (fun K hK => ?_) ?_
                · go_simp
                  refine (HCl.out wr.drew HIr.out).mono ?_
                  rintro e w2 ⟨cv, rfl, hown, hb⟩
                  have HT2 := Lib.hid (HTd.out.below hb)
                  have HO2 := Lib.hid (hown.base HTd.out.size)
                  obtain ⟨ca, cl, cc, rfl⟩ := hown.shape
                  clear hown hb
                  go_simp
                  refine hK.out _ _ (HS.out w2 HT2.out) (fun hHeld => ?_)
                  clear hK K
                  try simp only [Act.put, List.setIfInBounds_toArray, List.set_cons_zero, List.set_cons_succ]
                  refine wpAnyH_ready (rs := [5]) (by kernel_rfl) (by simp) ?_
                  refine AllReadyH.cons (o := ⟨some 72, .buildSlice 22 1 #[(0, .tmp 71)], 22, "quasi.go:151", #[⟨4, .data⟩], none⟩) rfl (fun K hK => ?_) AllReadyH.nil
                  go_simp
                  refine hK.out _ _ (HS.out (w2.alloc _) (HT2.out.below (below_box _ _))) (fun hHeld => ?_)
                  clear hK K
                  try simp only [Act.put, List.setIfInBounds_toArray, List.set_cons_zero, List.set_cons_succ]
                  refine wpAnyH_ready (rs := [6]) (by kernel_rfl) (by simp) ?_
                  refine AllReadyH.cons (o := ⟨some 73, .call { callee := .builtin .append, args := #[.tmp 70, .tmp 72], argTypes := #[22, 22] }, 22, "quasi.go:151", #[⟨3, .data⟩, ⟨5, .data⟩, ⟨3, .chain⟩], none⟩) rfl (fun K hK => ?_) AllReadyH.nil
                  refine step_ints (by rfl) _ _ (by rfl) (by rfl) (HO2.out.alloc _) w2.heap.size (by rfl) (World.cell?_alloc_new w2 _ _ 0) HL9.out (HT2.out.below (below_box _ _)).size ?_
                  intro v' w3 hown3 hgrow3
                  have HT3 := Lib.hid ((HT2.out.below (below_box _ _)).grown hgrow3 (fun q hq => (HO2.out.block q hq).1))
                  have HO3 := Lib.hid hown3
                  obtain ⟨ca3, cl3, cc3, rfl⟩ := hown3.shape
                  clear hown3 hgrow3
                  refine hK.out _ _ (HS.out w3 HT3.out) (fun hHeld => ?_)
                  clear hK K
                  try simp only [Act.put, List.setIfInBounds_toArray, List.set_cons_zero, List.set_cons_succ]
                  refine wpAnyH_ready (rs := [7]) (by kernel_rfl) (by simp) ?_
                  refine AllReadyH.cons (o := ⟨some 74, .call { callee := .value (.func 67), args := #[.tmp 67, .tmp 68, .tmp 73], argTypes := #[60, 60, 22] }, 22, "quasi.go:151", #[⟨0, .data⟩, ⟨1, .data⟩, ⟨6, .data⟩, ⟨6, .chain⟩], none⟩) rfl (fun K hK => ?_) AllReadyH.nil
                  go_simp
                  refine (HRec.out _ _ HO3.out).mono ?_
                  intro e w4 hp
                  obtain ⟨ra, rl, rc, rfl, hr, hb⟩ := hp
                  have HT4 := Lib.hid (HT3.out.below hb)
                  have HR4 := Lib.hid hr
                  clear hb hr
                  go_simp
                  refine hK.out _ _ (HS.out w4 HT4.out) (fun hHeld => ?_)
                  clear hK K
                  try simp only [Act.put, List.setIfInBounds_toArray, List.set_cons_zero, List.set_cons_succ]
                  refine wpAnyH_take (i := 8) (oi := ⟨some 11, .assign (.tmp 74), 22, "quasi.go:151", #[⟨7, .data⟩, ⟨7, .chain⟩, ⟨0, .phase⟩, ⟨1, .phase⟩, ⟨2, .phase⟩, ⟨3, .phase⟩, ⟨4, .phase⟩, ⟨5, .phase⟩, ⟨6, .phase⟩, ⟨7, .phase⟩], none⟩) (v := ?_) rfl (by kernel_rfl) (by kernel_rfl) (by kernel_rfl) (fun _ _ _ h => h) (Or.inl ⟨by rfl, ?_⟩) (by assumption) ?_
                  rotate_left
                  · intro w hSw
                    go_simp
                    with_reducible rfl
                  try simp only [Act.put, List.setIfInBounds_toArray, List.set_cons_zero, List.set_cons_succ]
                  refine wpAnyH_done (by kernel_rfl) ?_ _
                  refine NoPanic.normal ?_
                  go_wp2_with fail
                  go_ret
                  rw [HR.out, fsome_hit HN.out HF.out hlt]
                  exact ⟨_, _, _, rfl, HR4.out, HT4.out.2.2⟩
                refine AllReadyH.cons (o := ⟨some 72, .buildSlice 22 1 #[(0, .tmp 71)], 22, "quasi.go:151", #[⟨4, .data⟩], none⟩) rfl (fun K hK => ?_) AllReadyH.nil
                go_simp
                refine hK.out _ _ (HS.out (wr.drew.alloc _) HTb.out) (fun hHeld => ?_)
                clear hK K
                try simp only [Act.put, List.setIfInBounds_toArray, List.set_cons_zero, List.set_cons_succ]
                refine wpAnyH_ready (rs := [3]) (by kernel_rfl) (by simp) ?_
                refine AllReadyH.cons (o := ⟨some 70, .call { callee := .value (.func 72), args := #[.tmp 69], argTypes := #[22] }, 22, "quasi.go:151", #[⟨2, .data⟩], none⟩) rfl (fun K hK => ?_) AllReadyH.nil
                go_simp
                refine (HCl.out (wr.drew.alloc (.cells #[.int .i64 k] 3)) HIb.out).mono ?_
                rintro e w2 ⟨cv, rfl, hown, hb⟩
                have HT2 := Lib.hid (HTb.out.below hb)
                have HO2 := Lib.hid (hown.base HTb.out.size)
                have HX2 := Lib.hid (keep_cell hb HLb.out HXb.out)
                obtain ⟨ca, cl, cc, rfl⟩ := hown.shape
                clear hown hb
                go_simp
                refine hK.out _ _ (HS.out w2 HT2.out) (fun hHeld => ?_)
                clear hK K
                try simp only [Act.put, List.setIfInBounds_toArray, List.set_cons_zero, List.set_cons_succ]
                refine wpAnyH_ready (rs := [6]) (by kernel_rfl) (by simp) ?_
                refine AllReadyH.cons (o := ⟨some 73, .call { callee := .builtin .append, args := #[.tmp 70, .tmp 72], argTypes := #[22, 22] }, 22, "quasi.go:151", #[⟨3, .data⟩, ⟨5, .data⟩, ⟨3, .chain⟩], none⟩) rfl (fun K hK => ?_) AllReadyH.nil
                refine step_ints (by rfl) _ _ (by rfl) (by rfl) HO2.out wr.heap.size (by rfl) HX2.out HL9.out HT2.out.size ?_
                intro v' w3 hown3 hgrow3
                have HT3 := Lib.hid (HT2.out.grown hgrow3 (fun q hq => (HO2.out.block q hq).1))
                have HO3 := Lib.hid hown3
                obtain ⟨ca3, cl3, cc3, rfl⟩ := hown3.shape
                clear hown3 hgrow3
                refine hK.out _ _ (HS.out w3 HT3.out) (fun hHeld => ?_)
                clear hK K
                try simp only [Act.put, List.setIfInBounds_toArray, List.set_cons_zero, List.set_cons_succ]
                refine wpAnyH_ready (rs := [7]) (by kernel_rfl) (by simp) ?_
                refine AllReadyH.cons (o := ⟨some 74, .call { callee := .value (.func 67), args := #[.tmp 67, .tmp 68, .tmp 73], argTypes := #[60, 60, 22] }, 22, "quasi.go:151", #[⟨0, .data⟩, ⟨1, .data⟩, ⟨6, .data⟩, ⟨6, .chain⟩], none⟩) rfl (fun K hK => ?_) AllReadyH.nil
                go_simp
                refine (HRec.out _ _ HO3.out).mono ?_
                intro e w4 hp
                obtain ⟨ra, rl, rc, rfl, hr, hb⟩ := hp
                have HT4 := Lib.hid (HT3.out.below hb)
                have HR4 := Lib.hid hr
                clear hb hr
                go_simp
                refine hK.out _ _ (HS.out w4 HT4.out) (fun hHeld => ?_)
                clear hK K
                try simp only [Act.put, List.setIfInBounds_toArray, List.set_cons_zero, List.set_cons_succ]
                refine wpAnyH_take (i := 8) (oi := ⟨some 11, .assign (.tmp 74), 22, "quasi.go:151", #[⟨7, .data⟩, ⟨7, .chain⟩, ⟨0, .phase⟩, ⟨1, .phase⟩, ⟨2, .phase⟩, ⟨3, .phase⟩, ⟨4, .phase⟩, ⟨5, .phase⟩, ⟨6, .phase⟩, ⟨7, .phase⟩], none⟩) (v := ?_) rfl (by kernel_rfl) (by kernel_rfl) (by kernel_rfl) (fun _ _ _ h => h) (Or.inl ⟨by rfl, ?_⟩) (by assumption) ?_
                rotate_left
                · intro w hSw
                  go_simp
                  with_reducible rfl
                try simp only [Act.put, List.setIfInBounds_toArray, List.set_cons_zero, List.set_cons_succ]
                refine wpAnyH_done (by kernel_rfl) ?_ _
                refine NoPanic.normal ?_
                go_wp2_with fail
                go_ret
                rw [HR.out, fsome_hit HN.out HF.out hlt]
                exact ⟨_, _, _, rfl, HR4.out, HT4.out.2.2⟩
            · rw [em] at HCt
              have HF : Hid (namF n xs ys l out k = none) := by show _ = _; unfold namF; rw [em]; rfl
              clear em
              go_wp2_with fail
              refine (HCt.out).mono ?_
              rintro e w' ⟨rfl, rfl⟩
              go_wp2_with fail
              go_roundw
              case rel => exact ⟨k + 1, by omega, by go_num, by rw [fsome_next HN.out, HF.out], HT.out⟩
              case measure => simp [intOf]; omega
          · obtain rfl : k = n := by omega
            go_wp2_with fail
            go_ret
            rw [HR.out, HN.out]
            exact ⟨rfl, HT.out.2.2⟩
theorem names_any (n : Nat) (xs ys : List Int) (hx : IsLatin n xs) (hy : IsLatin n ys) : ∀ l, NamesOK n xs ys l
  | 0 => names_step n xs ys hx hy 0 (fun l' h => by omega)
  | l + 1 => names_step n xs ys hx hy (l + 1) (fun l' h => by
      obtain rfl : l = l' := by omega
      exact names_any n xs ys hx hy l)
/-- Names from none on. -/
theorem names_all (n : Nat) (xs ys : List Int) (hx : IsLatin n xs) (hy : IsLatin n ys) (w : World) :
    Calls Try.prog 67 #[.agg (rowOf 65 (tfill n xs xs.length)).toArray, .agg (rowOf 65 (tfill n ys ys.length)).toArray, .slice none 0 0] w (NamPost (firR n (namB n xs ys) n []) w) :=
  names_any n xs ys hx hy n _ [] w (by simp) (intsAt_nil _) (.inr rfl) (fun k hk => by simp at hk)
end Go.Proofs.Ytkmfhnjadpdkeaa
