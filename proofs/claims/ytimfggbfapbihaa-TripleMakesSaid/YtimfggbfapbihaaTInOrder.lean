/-
  Contract: the reference's InOrder. No condition.
-/
import Derived.BigRegion
import Derived.ChangeAlike
import Derived.Laws.OwnMore
import Derived.Test.YtimfggbfapbihaaSorted
import Derived.Test.YtimfggbfapbihaaTDesign
namespace Go.Proofs.Ytimfggbfapbihaa
open Go.RowKit

def sw (j i : Nat) : Nat := if i = j then j + 1 else if i = j + 1 then j else i
theorem rx_sw {A B : List (List Int)} {x y : List Int} {i : Nat} : rx (A ++ x :: y :: B) i = rx (A ++ y :: x :: B) (sw A.length i) := by
  unfold rx sw
  by_cases h1 : i = A.length
  · subst h1
    rw [if_pos rfl]
    simp [List.getD_eq_getElem?_getD]
  · rw [if_neg h1]
    by_cases h2 : i = A.length + 1
    · subst h2
      rw [if_pos rfl]
      simp [List.getD_eq_getElem?_getD]
    · rw [if_neg h2]
      by_cases h3 : i < A.length
      · simp [List.getD_eq_getElem?_getD, List.getElem?_append_left h3]
      · obtain ⟨q, rfl⟩ : ∃ q, i = A.length + (q + 2) := ⟨i - A.length - 2, by omega⟩
        simp [List.getD_eq_getElem?_getD, List.getElem?_append_right]
theorem sw_lt {j n i : Nat} (hj : j + 1 < n) (hi : i < n) : sw j i < n := by
  unfold sw
  by_cases h1 : i = j
  · rw [if_pos h1]; omega
  · rw [if_neg h1]
    by_cases h2 : i = j + 1
    · rw [if_pos h2]; omega
    · rw [if_neg h2]; exact hi
theorem map_sw {V : Nat → Value} {j n : Nat} : (((List.range n).map V).set j (V (j + 1))).set (j + 1) (V j) = (List.range n).map (fun i => V (sw j i)) := by
  apply List.ext_getElem
  · simp
  · intro i h1 h2
    simp only [List.getElem_set, List.getElem_map, List.getElem_range]
    unfold sw
    by_cases e1 : j + 1 = i
    · rw [if_pos e1, if_neg (by omega), if_pos e1.symm]
    · rw [if_neg e1]
      by_cases e2 : j = i
      · rw [if_pos e2, if_pos e2.symm]
      · rw [if_neg e2, if_neg (by omega), if_neg (by omega)]
/-- Two rows beside one another: their cells, and what it is when they are changed. -/
theorem OwnL.two {w : World} {base g n c : Nat} {A B : List (List Int)} {x y : List Int} (h : OwnL w base (.slice (some ⟨g, 0, none⟩) n c) (A ++ y :: x :: B)) :
    ∃ vy vx, w.cell? ⟨g, A.length, none⟩ = some vy ∧ w.frozen? ⟨g, A.length, none⟩ = false ∧ w.cell? ⟨g, A.length + 1, none⟩ = some vx ∧ w.frozen? ⟨g, A.length + 1, none⟩ = false ∧ Own w base 3 vy y ∧ Own w base 3 vx x ∧ base ≤ g ∧
      ∀ m, OwnL (((w.drewN m).setCell ⟨g, A.length, none⟩ vx).setCell ⟨g, A.length + 1, none⟩ vy) base (.slice (some ⟨g, 0, none⟩) n c) (A ++ x :: y :: B) := by
  obtain ⟨V, h1, h2⟩ := h
  have hn : (A ++ y :: x :: B).length = A.length + 2 + B.length := by simp; omega
  have ry : rx (A ++ y :: x :: B) A.length = y := by unfold rx; simp [List.getD_eq_getElem?_getD]
  have rxx : rx (A ++ y :: x :: B) (A.length + 1) = x := by unfold rx; simp [List.getD_eq_getElem?_getD]
  have o1 := h2 A.length (by omega)
  have o2 := h2 (A.length + 1) (by omega)
  rw [ry] at o1; rw [rxx] at o2
  obtain ⟨g', cap, cur, hv, hg, hh, hc, hm, hs, ht⟩ : ∃ g' cap cur, Value.slice (some ⟨g, 0, none⟩) n c = .slice (some ⟨g', 0, none⟩) (A ++ y :: x :: B).length cap ∧ base ≤ g' ∧ w.heap[g']? = some (.cells cur 37 (0, 0)) ∧ (A ++ y :: x :: B).length ≤ cap ∧ cap ≤ maxLen ∧ cur.size = cap * 1 ∧ cur.toList.take ((A ++ y :: x :: B).length * 1) = (List.range (A ++ y :: x :: B).length).map V := by
    rcases h1.2 with ⟨e, _⟩ | h
    · cases e
    · exact h
  injection hv with e1 e2 e3
  injection e1 with e1; injection e1 with e1 _ _; subst e1; subst e3
  have cell : ∀ j, j < (A ++ y :: x :: B).length → w.cell? ⟨g, j, none⟩ = some (V j) := fun j hj => by
    rw [cell_of_row w g j cur _ (0, 0) hh]
    have e : (cur.toList.take ((A ++ y :: x :: B).length * 1))[j]? = ((List.range (A ++ y :: x :: B).length).map V)[j]? := by rw [ht]
    rw [List.getElem?_take_of_lt (by omega)] at e
    rw [← Array.getElem?_toList, e]
    simp only [List.getElem?_map, List.getElem?_range hj]; rfl
  refine ⟨V A.length, V (A.length + 1), cell _ (by omega), by simp [World.frozen?, hh], cell _ (by omega), by simp [World.frozen?, hh], o1, o2, hg, fun m => ⟨fun i => V (sw A.length i), ?_, fun i hi => ?_⟩⟩
  · have hl : (A ++ x :: y :: B).length = (A ++ y :: x :: B).length := by simp
    rw [hl]
    subst e2
    have h1' : (w.drewN m).ownsRow base 37 1 (.slice (some ⟨g, 0, none⟩) (A ++ y :: x :: B).length c) (A ++ y :: x :: B).length ((List.range (A ++ y :: x :: B).length).map V) := h1
    have h5 := ((h1'.stored A.length (V (A.length + 1))).1.stored (A.length + 1) (V A.length)).1
    rw [map_sw] at h5
    exact h5
  · have hl : (A ++ x :: y :: B).length = (A ++ y :: x :: B).length := by simp
    rw [hl] at hi
    have o := h2 (sw A.length i) (sw_lt (by omega) hi)
    rw [rx_sw]
    have ho : Own (w.drewN m) base 3 (V (sw A.length i)) (rx (A ++ y :: x :: B) (sw A.length i)) := o.drewN m
    have hh' : (w.drewN m).heap[g]? = some (.cells cur 37 (0, 0)) := hh
    obtain ⟨c', hc'⟩ := heap_set hh' A.length (V (A.length + 1))
    exact World.ownsRow.kept (World.ownsRow.kept ho (grownBy_set _ g _ _) (apart_of ho hh' (by decide))) (grownBy_set _ g _ _) (apart_of (World.ownsRow.kept ho (grownBy_set _ g _ _) (apart_of ho hh' (by decide))) hc' (by decide))
/-- While a row sinks: what stands before it, and behind it. -/
structure SinkR (done : List (List Int)) (x : List Int) (k : Nat) (A B : List (List Int)) : Prop where
  len : A.length = k
  sorted : (A ++ B).Pairwise (fun a b => lexB b a = false)
  more : ∀ b ∈ B, lexB b x = false
  perm : (A ++ B).Perm done
theorem SinkR.step {done : List (List Int)} {x y : List Int} {k : Nat} {A B : List (List Int)} (h : SinkR done x (k + 1) (A ++ [y]) B) (hy : lexB x y = true) : SinkR done x k A (y :: B) :=
  ⟨by have := h.len; simp at this; exact this, by have := h.sorted; simpa using this, fun b hb => by
    rcases List.mem_cons.1 hb with rfl | hb
    · exact lexB_asymm hy
    · exact h.more b hb, by have := h.perm; simpa using this⟩
theorem SinkR.done {done : List (List Int)} {x : List Int} {k : Nat} {A B : List (List Int)} (h : SinkR done x k A B) (hA : ∀ a ∈ A, lexB x a = false) : (A ++ x :: B).Pairwise (fun a b => lexB b a = false) ∧ (A ++ x :: B).Perm (done ++ [x]) := by
  constructor
  · have hs := h.sorted
    rw [List.pairwise_append] at hs ⊢
    refine ⟨hs.1, List.pairwise_cons.2 ⟨h.more, hs.2.1⟩, fun a ha b hb => ?_⟩
    rcases List.mem_cons.1 hb with rfl | hb
    · exact hA a ha
    · exact hs.2.2 a ha b hb
  · exact List.perm_middle.trans ((h.perm.cons x).trans (List.perm_append_singleton x done).symm)
theorem sinkR_last {done : List (List Int)} {x y : List Int} {k : Nat} {A B : List (List Int)} (h : SinkR done x (k + 1) (A ++ [y]) B) (hy : lexB x y = false) : ∀ a ∈ A ++ [y], lexB x a = false := by
  intro a ha
  have hs := h.sorted
  rw [List.pairwise_append, List.pairwise_append] at hs
  rcases List.mem_append.1 ha with ha | ha
  · exact lexB_ntrans hy (hs.1.2.2 a ha y (by simp))
  · simp at ha; rw [ha]; exact hy
theorem gl_rows {w1 : World} {base : Nat} {v' : Value} {M : List (List Int)} {X : List Int} (ho : OwnL w1 base v' (M ++ [X])) : ∃ g c, v' = .slice (some ⟨g, 0, none⟩) (M.length + 1) c := by
  obtain ⟨V, h1, _⟩ := ho
  rcases h1.2 with ⟨_, e2⟩ | ⟨g, cap, cur, e, _⟩
  · simp at e2
  · exact ⟨g, cap, by rw [e]; simp⟩
theorem take_succ_rx {xss : List (List Int)} {i : Nat} (h : i < xss.length) : xss.take (i + 1) = xss.take i ++ [rx xss i] := by
  rw [List.take_succ_eq_append_getElem h, rx_lt h]

set_option maxRecDepth 100000 in
set_option maxHeartbeats 4000000 in
theorem inOrder_any (v : Value) (xss : List (List Int)) (w : World) (h : RowsAt w v xss) (hl : xss.length ≤ 1000000) (h3 : ∀ i, i < xss.length → (rx xss i).length = 3) :
    Calls Try.prog 10 #[v] w fun e w' => ∃ u, e = .returned u ∧ OwnL w' w.heap.size u (sortR (xss.map sortI)) ∧ Below w.heap.size w w' := by
  obtain ⟨a, c, V, rfl, h1, h2, _, hX⟩ := h
  have HX := Lib.hid hX; have H3 := Lib.hid h3; clear hX h3
  go_enter Try.func10, Try.ntmps10
  go_wp2_with fail
  go_loopw [4, 3] (fun s l wr => ∃ (i : Nat) (L : List (List Int)) (z : Value), i ≤ xss.length ∧ s = .int .i64 i ∧ l = z ∧ L.Perm ((xss.take i).map sortI) ∧ L.Pairwise (fun a b => lexB b a = false) ∧ OwnL wr w.heap.size z L ∧ Below w.heap.size w wr) (fun s _ _ => xss.length - (intOf s).toNat)
  case atStart => exact ⟨0, [], _, by omega, rfl, rfl, by simp, List.Pairwise.nil, ownL_nil _ _, Below.refl _ _⟩
  case round =>
    obtain ⟨i, L, lv, hi, rfl, hz, hp, hs, hO, hB⟩ := hrel
    rename World => W0
    have hLl : L.length = i := by have := hp.length_eq; rw [List.length_map, List.length_take] at this; omega
    have HP := Lib.hid hp; have HS := Lib.hid hs; have HO := Lib.hid hO; have HB := Lib.hid hB; have HLl := Lib.hid hLl
    have hsz := hB.size
    obtain ⟨la, lc, hlv⟩ : ∃ a c, lv = .slice a i c := by
      obtain ⟨a, c, e⟩ := hO.shape
      exact ⟨a, c, by rw [e, hLl]⟩
    clear hp hs hB hLl hO
    subst hlv
    subst hz
    by_cases hlt : i < xss.length
    · obtain ⟨hrow, b, o, rfl, hb, hc⟩ := HX.out i hlt
      have hcell := hc i hlt
      rw [← (bcell HB.out).1 _ _ hb] at hcell
      have HSo := Lib.hid (sorted_any (V i) (rx xss i) W0 (hrow.below HB.out) (by rw [H3.out i hlt]; omega))
      have HXl : Hid ((sortI (rx xss i)).length = 3) := by show _ = _; rw [sortI_len]; exact H3.out i hlt
      have HTk : Hid ((xss.take (i + 1)).map sortI = (xss.take i).map sortI ++ [sortI (rx xss i)]) := by show _ = _; rw [take_succ_rx hlt, List.map_append]; rfl
      have HLen : Hid (∀ M : List (List Int), M.Perm ((xss.take i).map sortI) → ∀ r ∈ M, r.length = 3) := fun M hM r hr => by
        obtain ⟨q, hq, rfl⟩ := List.mem_map.1 (hM.mem_iff.1 hr)
        obtain ⟨j, hj, rfl⟩ := List.getElem_of_mem (List.mem_of_mem_take hq)
        rw [sortI_len, ← rx_lt hj]; exact H3.out j hj
      obtain ⟨ra, rc, hV, _⟩ := hrow
      rw [hV] at hcell HSo
      clear hc hV
      generalize sortI (rx xss i) = X at *
      go_wp2_with fail
      refine (HSo.out).mono ?_
      rintro e w2 ⟨u2, rfl, hown, hb2⟩
      obtain ⟨xa, xl, xc, rfl⟩ := hown.shape
      have HO2 := Lib.hid (HO.out.below hb2)
      have HX2 := Lib.hid (hown.base hsz)
      have hB2 := HB.out.trans (hb2.mono hsz)
      have HB2 := Lib.hid hB2
      have hsz2 := hB2.size
      clear hown hb2 hB2 HO HSo hcell
      go_wp2_with (at_builtin; refine app_list rfl _ _ rfl rfl (HO2.out.below (below_box _ _)) _ (HX2.out.alloc _) rfl (by rw [World.cell?_alloc_new]; rfl) (by have := HLl.out; omega) (by rw [World.size_alloc]; omega) ?_; intro v' w3 hown1 hgrow; have HO3 := Lib.hid hown1; have HB3 := Lib.hid ((HB2.out.alloc hsz2 _).grown hgrow (by rw [World.size_alloc]; omega) (fun k hk => (HO2.out.block k hk).1)); obtain ⟨g, gc, rfl⟩ := gl_rows hown1; clear hown1 hgrow)
      have HSk : Hid (SinkR L X i L []) := ⟨HLl.out, by rw [List.append_nil]; exact HS.out, fun b hb => (by cases hb), by rw [List.append_nil]⟩
      rw [HLl.out]
      clear HO2 HX2 HB2
      go_loopw [6] (fun s wr => ∃ (k : Nat) (A B : List (List Int)), k ≤ i ∧ s = .int .i64 k ∧ SinkR L X k A B ∧ OwnL wr w.heap.size (.slice (some ⟨g, 0, none⟩) (i + 1) gc) (A ++ X :: B) ∧ Below w.heap.size w wr) (fun s _ => (intOf s).toNat)
      case atStart => exact ⟨i, L, [], Nat.le_refl _, rfl, HSk.out, by rw [← HLl.out]; exact HO3.out, HB3.out⟩
      case round =>
        clear HO3 HB3 HSk
        obtain ⟨k, A, B, hk, rfl, hS, hO, hB⟩ := hrel
        have HSk := Lib.hid hS; have HO := Lib.hid hO; have HB2 := Lib.hid hB
        clear hS hO hB
        have HEnd : Hid ((∀ a ∈ A, lexB X a = false) → (A ++ X :: B).Perm ((xss.take (i + 1)).map sortI) ∧ (A ++ X :: B).Pairwise (fun a b => lexB b a = false)) := fun hA => by
          obtain ⟨q1, q2⟩ := HSk.out.done hA
          refine ⟨?_, q1⟩
          rw [HTk.out]
          exact q2.trans (List.Perm.append_right _ HP.out)
        cases k with
        | zero =>
          have hA : A = [] := List.eq_nil_of_length_eq_zero HSk.out.len
          have HE2 := Lib.hid (HEnd.out (by rw [hA]; intro a ha; cases ha))
          clear hA HEnd
          go_wp2_with fail
          go_roundw
          case rel => exact ⟨i + 1, A ++ X :: B, _, by omega, by go_num, rfl, HE2.out.1, HE2.out.2, HO.out, HB2.out⟩
          case measure => simp [intOf]; omega
        | succ k =>
          rename World => W1
          have hAl := HSk.out.len
          obtain ⟨A', y, hA⟩ : ∃ A' y, A = A' ++ [y] := by
            have hne : A ≠ [] := by intro e; rw [e] at hAl; simp at hAl
            exact ⟨A.dropLast, A.getLast hne, (List.dropLast_concat_getLast hne).symm⟩
          subst hA
          have hAl' : A'.length = k := by simp at hAl; exact hAl
          have hM : A' ++ [y] ++ X :: B = A' ++ y :: X :: B := by simp
          have hO2 := HO.out
          rw [hM] at hO2
          obtain ⟨vy, vx, c1, f1, c2, f2, oy, ox, hgw, hsw⟩ := hO2.two
          rw [hAl'] at c1 f1 c2 f2 hsw
          have hyl : y.length = 3 := HLen.out ((A' ++ [y]) ++ B) (HSk.out.perm.trans HP.out) y (by simp)
          have HAh : Hid (∀ m, Calls Try.prog 17 #[vx, vy] (W1.drewN m) fun e w' => e = .returned (.bool (lexB X y)) ∧ ∃ nd, w' = (W1.drewN m).drewN nd) := fun m =>
            ahead_any vx vy X y _ ((ox.drewN m).intsAt (by rw [HXl.out]; omega)) ((oy.drewN m).intsAt (by rw [hyl]; omega)) (by rw [HXl.out, hyl])
          obtain ⟨ya, yl, yc, rfl⟩ := oy.shape
          obtain ⟨za, zl, zc, rfl⟩ := ox.shape
          have HSw := Lib.hid hsw
          have HB3 : Hid (∀ m u u', Below w.heap.size w (((W1.drewN m).setCell ⟨g, k, none⟩ u).setCell ⟨g, k + 1, none⟩ u')) := fun m u u' => ((below_drewN HB2.out m).setCell hgw _).setCell hgw _
          have i0 : (0 : Int) ≤ (k : Int) + 1 - 1 := by omega
          have i1 : ((k : Int) + 1 - 1).toNat = k := by omega
          have i2 : ((k : Int) + 1).toNat = k + 1 := by omega
          have i3 : (0 : Int) ≤ (k : Int) + 1 := by omega
          have i4 : (k : Int) < (i : Int) + 1 := by omega
          have i5 : (k : Int) + 1 < (i : Int) + 1 := by omega
          have i6 : IntKind.i64.wrap (k : Int) = (k : Int) := IntWalk.i64_in _ (by omega)
          have i7 : (k : Int) < (i : Int) := by omega
          clear hsw hO2 hM hAl hAl' oy ox hyl
          cases ed : lexB X y
          · have HE2 := Lib.hid (HEnd.out (sinkR_last HSk.out ed))
            rw [ed] at HAh
            clear HEnd ed
            go_wp2_with fail
            go_quiet (exact Calls.quiet_of (HAh.out _))
            go_wp2_with fail
            go_roundw
            case rel => exact ⟨i + 1, A' ++ [y] ++ X :: B, _, by omega, by go_num, rfl, HE2.out.1, HE2.out.2, HO.out.below (below_D _ _), below_drewN HB2.out _⟩
            case measure => simp [intOf]; omega
          · have HStp := Lib.hid (HSk.out.step ed)
            rw [ed] at HAh
            clear HEnd ed
            go_wp2_with fail
            go_quiet (exact Calls.quiet_of (HAh.out _))
            go_wp2_with fail
            go_region
            all_goals
              go_wp2_with fail
              go_roundw
              case rel => exact ⟨k, A', y :: B, by omega, rfl, HStp.out, HSw.out _, HB3.out _ _ _⟩
              case measure => simp [intOf]
    · obtain rfl : i = xss.length := by omega
      have HF : Hid (L = sortR (xss.map sortI)) := sortR_of (by have := HP.out; rwa [List.take_length] at this) HS.out
      go_wp2_with fail
      go_ret
      exact ⟨_, rfl, by rw [← HF.out]; exact HO.out, HB.out⟩
end Go.Proofs.Ytimfggbfapbihaa
