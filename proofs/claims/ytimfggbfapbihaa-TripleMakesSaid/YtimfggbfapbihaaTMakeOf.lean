/-
  Contract: the reference's MakeOf. No condition.
-/
import Derived.Test.YtimfggbfapbihaaTInOrder
import Derived.Test.YtimfggbfapbihaaTMake
namespace Go.Proofs.Ytimfggbfapbihaa
open Go.RowKit

def rT3 (m h x y i : Nat) : List (List Int) := catF (fun i => [rowT m h x y i]) 0 i
def rS3 (t m x i : Nat) : List (List Int) := catF (fun i => [rowS t m x i]) 0 i
def rA3 (m k : Nat) : List (List Int) := catF (fun x => [rowD m x]) 0 k
def rA1 (t m k : Nat) : List (List Int) := catF (fun x => [rowD m x] ++ rS3 t m x 3) 0 k
def rY (h : Nat → Nat → Nat) (m x y : Nat) : List (List Int) := catF (fun y => rT3 m (h x y) x y 3) (x + 1) y
def rB (h : Nat → Nat → Nat) (m k : Nat) : List (List Int) := catF (fun x => rY h m x m) 0 k
def ref3 (t : Nat) : List (List Int) := rA3 (2 * t + 1) (2 * t + 1) ++ rB (hB t (2 * t + 1)) (2 * t + 1) (2 * t + 1)
def ref1 (t : Nat) : List (List Int) := rA1 t (2 * t) t ++ rB (hS t (2 * t)) (2 * t) (2 * t)
theorem row_eq {x y z x' y' z' : Int} (h1 : x = x') (h2 : y = y') (h3 : z = z') : [x, y, z] = [x', y', z'] := by rw [h1, h2, h3]
theorem rT3_all (m h x y : Nat) : ∀ r ∈ rT3 m h x y 3, r.length = 3 := catF_all (P := fun r => r.length = 3) (fun i r hr => by rw [List.mem_singleton] at hr; rw [hr]; rfl) 3
theorem rB_all (h : Nat → Nat → Nat) (m k : Nat) : ∀ r ∈ rB h m k, r.length = 3 := catF_all (P := fun r => r.length = 3) (fun _ r hr => catF_all (P := fun r => r.length = 3) (fun _ r hr => rT3_all _ _ _ _ r hr) _ r hr) _
theorem ref3_all (t : Nat) : ∀ r ∈ ref3 t, r.length = 3 := fun r hr => by
  rw [ref3, List.mem_append] at hr
  rcases hr with hr | hr
  · exact catF_all (P := fun r => r.length = 3) (fun i r hr => by rw [List.mem_singleton] at hr; rw [hr]; rfl) _ r hr
  · exact rB_all _ _ _ r hr
theorem ref1_all (t : Nat) : ∀ r ∈ ref1 t, r.length = 3 := fun r hr => by
  rw [ref1, List.mem_append] at hr
  rcases hr with hr | hr
  · exact catF_all (P := fun r => r.length = 3) (fun x r hr => by
      rw [List.mem_append, List.mem_singleton] at hr
      rcases hr with hr | hr
      · rw [hr]; rfl
      · exact catF_all (P := fun r => r.length = 3) (fun i r hr => by rw [List.mem_singleton] at hr; rw [hr]; rfl) 3 r hr) _ r hr
  · exact rB_all _ _ _ r hr

/-- While blocks are listed: the list (of the call's own), the result (still empty). -/
structure MoRel (w wr : World) (z : Value) (L : List (List Int)) : Prop where
  own : OwnL wr (w.heap.size + 1) z L
  res : Arr wr w.heap.size 2 (fun j => if j = 0 then .int .i64 0 else .slice none 0 0)
  bel : Below w.heap.size w wr
theorem MoRel.size {w wr : World} {z : Value} {L : List (List Int)} (h : MoRel w wr z L) : w.heap.size + 1 ≤ wr.heap.size := h.res.lt
theorem MoRel.begin (w : World) (t : TypeId) : MoRel w (w.alloc (.cells #[.int .i64 0, .slice none 0 0] t)) (.slice none 0 0) [] := ⟨ownL_nil _ _, mk_box w t, below_box _ _⟩
theorem MoRel.two {w wr : World} {z : Value} {L : List (List Int)} (h : MoRel w wr z L) (a b : Obj) : MoRel w ((wr.alloc a).alloc b) z L :=
  have hb := belowTrans (below_box wr a) (below_box (wr.alloc a) b)
  ⟨h.own.below hb, h.res.below hb, belowTrans h.bel hb⟩
theorem MoRel.push {w w1 w2 : World} {z z' : Value} {L L' : List (List Int)} (h : MoRel w w1 z L) (hO : OwnL w2 (w.heap.size + 1) z' L') (hg : w1.grownBy w2 z.ownBlock) : MoRel w w2 z' L' := by
  have hbl : ∀ k, z.ownBlock = some k → w.heap.size + 1 ≤ k := fun k hk => (h.own.block k hk).1
  have hsz := h.size
  exact ⟨hO, h.res.kept (fun o => hg.cell_far ⟨w.heap.size, o, none⟩ hsz (fun e => by have := hbl w.heap.size e.symm; omega)) (fun o => hg.frozen_far ⟨w.heap.size, o, none⟩ hsz (fun e => by have := hbl w.heap.size e.symm; omega)) hg.size, h.bel.grown hg (by omega) (fun k hk => by have := hbl k hk; omega)⟩
theorem cell_two (w : World) (a : Obj) (c : Array Value) (t : TypeId) (i : Nat) : ((w.alloc a).alloc (.cells c t)).cell? ⟨w.heap.size + 1, i, none⟩ = c[i]? := by
  have h := World.cell?_alloc_new (w := w.alloc a) c t i
  rw [World.size_alloc] at h; exact h
theorem mo_row {w wr : World} {z : Value} {L : List (List Int)} {r r' : List Int} (h : MoRel w wr z (L ++ [r])) (e : r = r') : MoRel w wr z (L ++ [r']) := e ▸ h
theorem MoRel.keep {w w1 w2 : World} {z u : Value} {L M : List (List Int)} (h : MoRel w w1 z L) (hO : OwnL w2 w1.heap.size u M) (hb : Below w1.heap.size w1 w2) (hl : M.length ≤ 1000000000) (hr : ∀ i, i < M.length → (rx M i).length ≤ 1000000000) :
    Arr w2 w.heap.size 2 (fun j => if j = 0 then .int .i64 0 else .slice none 0 0) ∧ Below w.heap.size w w2 ∧ KeepT M u (w.heap.size + 1) w2 :=
  ⟨h.res.below hb, belowTrans h.bel hb, KeepT.low (B := w1.heap.size) (fun _ hc hz => hO.rowsFar hl hr hc hz) h.size⟩

theorem rows_facts (L : List (List Int)) (h : ∀ r ∈ L, r.length = 3) : ∃ R yss, R = L ∧ yss = sortR (L.map sortI) ∧ (∀ (i : Nat), i < R.length → (rx R i).length = 3) ∧ yss.length = R.length ∧ (∀ (i : Nat), i < yss.length → (rx yss i).length ≤ 1000000000) ∧
    (∀ (z : Value) (W : World), RowsAt W z R → R.length ≤ 1000000 → Calls Try.prog 10 #[z] W fun e w' => ∃ u, e = .returned u ∧ OwnL w' W.heap.size u yss ∧ Below W.heap.size W w') :=
  ⟨L, sortR (L.map sortI), rfl, rfl, all_rx h, by rw [sortR_len, List.length_map], fun i hi => by
    obtain ⟨j, hj, e⟩ := List.mem_map.1 ((sortR_perm _).mem_iff.1 (rx_mem hi))
    rw [← e, sortI_len, h j hj]; omega, fun z W hW hl => inOrder_any z L W hW hl (all_rx h)⟩

set_option maxRecDepth 100000 in
set_option maxHeartbeats 2000000 in
theorem makeOf_far (v : Int) (w : World) (h : v < 1 ∨ 33 < v) : Calls Try.prog 5 #[.int .i64 v] w (MkPost 0 [] 1 w) := by
  have HD := Lib.hid (below_box w (.cells #[.int .i64 0, .slice none 0 0] 24))
  have HA := Lib.hid (mk_box w 24)
  by_cases h1 : v < 1
  · have e1 : decide (v < 1) = true := by simpa using h1
    clear h
    go_enter Try.func5, Try.ntmps5
    go_wp2_with fail
    exact bodyPost_ret (results_pairT (p := 2) (u := 3) rfl HA.out Try.underlying24 rfl (by kernel_rfl) rfl) rfl (mk_none HD.out 1)
  · have e1 : decide (v < 1) = false := by simpa using h1
    have e2 : decide (33 < v) = true := by simp; omega
    clear h
    go_enter Try.func5, Try.ntmps5
    go_wp2_with fail
    exact bodyPost_ret (results_pairT (p := 2) (u := 3) rfl HA.out Try.underlying24 rfl (by kernel_rfl) rfl) rfl (mk_none HD.out 1)
set_option maxRecDepth 100000 in
set_option maxHeartbeats 2000000 in
theorem makeOf_no (n : Nat) (w : World) (h1 : 1 ≤ n) (h2 : n ≤ 33) (h3 : n % 6 ≠ 3) (h4 : n % 6 ≠ 1) : Calls Try.prog 5 #[.int .i64 (n : Nat)] w (MkPost 0 [] 4 w) := by
  have HD := Lib.hid (below_box w (.cells #[.int .i64 0, .slice none 0 0] 24))
  have HA := Lib.hid (mk_box w 24)
  have e1 : decide ((n : Int) < 1) = false := by simp; omega
  have e2 : decide ((33 : Int) < (n : Int)) = false := by simp; omega
  have e3 : ((n : Int) % 6 == 3) = false := by simp; omega
  have e4 : ((n : Int) % 6 == 1) = false := by simp; omega
  clear h3 h4
  go_enter Try.func5, Try.ntmps5
  go_wp2_with fail
  exact bodyPost_ret (results_pairT (p := 2) (u := 3) rfl HA.out Try.underlying24 rfl (by kernel_rfl) rfl) rfl (mk_none HD.out 4)

set_option maxRecDepth 100000 in
set_option maxHeartbeats 8000000 in
theorem makeOf_three (n t : Nat) (w : World) (h2 : n ≤ 33) (hn : n = 6 * t + 3) : Calls Try.prog 5 #[.int .i64 (n : Nat)] w (MkPost n (sortR ((ref3 t).map sortI)) 0 w) := by
  have HM := Lib.hid (MoRel.begin w 24)
  obtain ⟨R, yss, hR, hY, hAl, hsl, hLen, hIn⟩ := rows_facts (ref3 t) (ref3_all t)
  rw [← hY]
  have HAl := Lib.hid hAl; have HSl := Lib.hid hsl; have HLen := Lib.hid hLen; have HIn := Lib.hid hIn
  have e1 : decide ((n : Int) < 1) = false := by simp; omega
  have e2 : decide ((33 : Int) < (n : Int)) = false := by simp; omega
  have e3 : (n : Int) % 6 = 3 := by omega
  have e4 : (n : Int) / 6 = (t : Int) := by omega
  have ht : t ≤ 5 := by omega
  obtain ⟨m, hm⟩ : ∃ m, m = 2 * t + 1 := ⟨_, rfl⟩
  have HE : Hid (R = rA3 m m ++ rB (hB t m) m m) := by show _ = _; rw [hR, hm]; rfl
  have hmv : 2 * (t : Int) + 1 = (m : Int) := by omega
  have hm11 : m ≤ 11 := by omega
  have HMm := Lib.hid hm
  clear hm hn hR hY hAl hsl hLen hIn
  go_enter Try.func5, Try.ntmps5
  go_wp2_with fail
  try simp only [e3]
  go_loopw [7, 4] (fun s l wr => ∃ (k : Nat) (z : Value), k ≤ m ∧ s = .int .i64 k ∧ l = z ∧ MoRel w wr z (rA3 m k) ∧ (rA3 m k).length ≤ k) (fun s _ _ => m - (intOf s).toNat)
  case atStart => exact ⟨0, _, by omega, rfl, rfl, HM.out, by simp [rA3, catF]⟩
  case round =>
    clear HM
    obtain ⟨k, z, hk, rfl, hz, hM, hL⟩ := hrel
    subst hz
    rename World => W0
    have HM := Lib.hid hM
    have hsz := hM.size
    clear hM
    by_cases hlt : k < m
    · have HX : Hid (rA3 m (k + 1) = rA3 m k ++ [rowD m k]) := catF_step (Nat.zero_le _)
      have hl3 := congrArg List.length HX.out
      rw [List.length_append, List.length_singleton] at hl3
      go_wp2_with (at_builtin; refine app_list rfl _ _ rfl rfl (HM.out.two _ _).own _ (((own_three W0 _ _ _).base hsz).alloc _) rfl (by rw [cell_two]; rfl) (by omega) (by rw [World.size_alloc, World.size_alloc]; omega) ?_; intro z' w3 hown1 hgrow; have HM3 := Lib.hid ((HM.out.two _ _).push hown1 hgrow); clear hown1 hgrow)
      have HM4 := Lib.hid (mo_row HM3.out (r' := rowD m k) (row_eq (by omega) (by omega) (by omega)))
      clear HM3 HM
      rw [← HX.out] at HM4
      go_roundw
      case rel => exact ⟨k + 1, _, by omega, by go_num, rfl, HM4.out, by omega⟩
      case measure => simp [intOf]; omega
    · have hkm : m = k := by omega
      subst hkm
      obtain ⟨K0, hK0⟩ : ∃ L, L = rA3 m m := ⟨_, rfl⟩
      rw [← hK0] at HM hL HE
      clear hK0
      go_wp2_with fail
      try simp only [e3, e4, hmv]
      go_loopw [10, 4] (fun s l wr => ∃ (x : Nat) (z : Value), x ≤ m ∧ s = .int .i64 x ∧ l = z ∧ MoRel w wr z (K0 ++ rB (hB t m) m x) ∧ (K0 ++ rB (hB t m) m x).length ≤ 100 + 40 * x) (fun s _ _ => m - (intOf s).toNat)
      case atStart => exact ⟨0, _, by omega, rfl, rfl, by simpa [rB, catF] using HM.out, by simp [rB, catF]; omega⟩
      case round =>
        clear HM hL
        obtain ⟨x, z, hx, rfl, hz, hM, hL⟩ := hrel
        subst hz
        rename World => W0
        have HM := Lib.hid hM
        clear hM
        by_cases hlx : x < m
        · have HX : Hid (rB (hB t m) m (x + 1) = rB (hB t m) m x ++ rY (hB t m) m x m) := catF_step (Nat.zero_le _)
          obtain ⟨L1, hL1⟩ : ∃ L, L = K0 ++ rB (hB t m) m x := ⟨_, rfl⟩
          rw [← hL1] at hL HM
          have HL1 := Lib.hid hL1
          clear hL1
          go_wp2_with fail
          try simp only [e3, e4, hmv]
          go_loopw [11, 4] (fun s l wr => ∃ (y : Nat) (z : Value), x + 1 ≤ y ∧ y ≤ m ∧ s = .int .i64 y ∧ l = z ∧ MoRel w wr z (L1 ++ rY (hB t m) m x y) ∧ (L1 ++ rY (hB t m) m x y).length ≤ 100 + 40 * x + 3 * (y - (x + 1))) (fun s _ _ => m - (intOf s).toNat)
          case atStart => exact ⟨x + 1, _, by omega, by omega, by go_num, rfl, by rw [rY, catF_start, List.append_nil]; exact HM.out, by rw [rY, catF_start, List.append_nil]; omega⟩
          case round =>
            clear HM
            obtain ⟨y, z, hxy, hy, rfl, hz, hM, hlen⟩ := hrel
            subst hz
            rename World => W1
            have HM := Lib.hid hM
            clear hM
            by_cases hly : y < m
            · have HX2 : Hid (rY (hB t m) m x (y + 1) = rY (hB t m) m x y ++ rT3 m (hB t m x y) x y 3) := catF_step hxy
              obtain ⟨L2, hL2⟩ : ∃ L, L = L1 ++ rY (hB t m) m x y := ⟨_, rfl⟩
              rw [← hL2] at hlen HM
              have HL2 := Lib.hid hL2
              have hm0 : ¬ m = 0 := by omega
              clear hL2
              obtain ⟨hv, hP⟩ := hB_val (t := t) (x := x) (y := y) ht (by omega) (by omega)
              have hhl : hB t m x y < m := Nat.mod_lt _ (by omega)
              have hw : (((x + y) * (t + 1) : Nat) : Int) % (m : Int) = ((hB t m x y : Nat) : Int) := by unfold hB; rw [← Int.natCast_emod]
              generalize hB t m x y = hh at *
              generalize (x + y) * (t + 1) = P at *
              go_wp2_with fail
              simp only [hv, hw, e3]
              clear hv hw
              go_loopw [14, 4] (fun s l wr => ∃ (i : Nat) (z : Value), i ≤ 3 ∧ s = .int .i64 i ∧ l = z ∧ MoRel w wr z (L2 ++ rT3 m hh x y i) ∧ (L2 ++ rT3 m hh x y i).length ≤ 100 + 40 * x + 3 * (y - (x + 1)) + i) (fun s _ _ => 3 - (intOf s).toNat)
              case atStart => exact ⟨0, _, by omega, rfl, rfl, by simpa [rT3, catF] using HM.out, by simpa [rT3, catF] using hlen⟩
              case round =>
                clear HM hlen
                obtain ⟨i, z, hi, rfl, hz, hM, hlen⟩ := hrel
                subst hz
                rename World => W2
                have HM := Lib.hid hM
                have hsz := hM.size
                have HT : Hid (rT3 m hh x y (i + 1) = rT3 m hh x y i ++ [rowT m hh x y i]) := catF_step (Nat.zero_le _)
                clear hM
                by_cases hi3 : i < 3
                · have hi012 : i = 0 ∨ i = 1 ∨ i = 2 := by omega
                  rcases hi012 with rfl | rfl | rfl
                  · go_wp2_with (at_builtin; refine app_list rfl _ _ rfl rfl (HM.out.two _ _).own _ (((own_three W2 _ _ _).base hsz).alloc _) rfl (by rw [cell_two]; rfl) (by omega) (by rw [World.size_alloc, World.size_alloc]; omega) ?_; intro z' w3 hown1 hgrow; have HM3 := Lib.hid ((HM.out.two _ _).push hown1 hgrow); clear hown1 hgrow)
                    have HM4 := Lib.hid (mo_row HM3.out (r' := rowT m hh x y 0) (row_eq (by omega) (by omega) (by omega)))
                    clear HM3 HM
                    rw [List.append_assoc, ← HT.out] at HM4
                    have hl3 := congrArg List.length HT.out
                    rw [List.length_append, List.length_singleton] at hl3
                    rw [List.length_append] at hlen
                    go_roundw
                    case rel => exact ⟨_, _, by omega, by go_num, rfl, HM4.out, by rw [List.length_append]; omega⟩
                    case measure => simp [intOf]
                  · go_wp2_with (at_builtin; refine app_list rfl _ _ rfl rfl (HM.out.two _ _).own _ (((own_three W2 _ _ _).base hsz).alloc _) rfl (by rw [cell_two]; rfl) (by omega) (by rw [World.size_alloc, World.size_alloc]; omega) ?_; intro z' w3 hown1 hgrow; have HM3 := Lib.hid ((HM.out.two _ _).push hown1 hgrow); clear hown1 hgrow)
                    have HM4 := Lib.hid (mo_row HM3.out (r' := rowT m hh x y 1) (row_eq (by omega) (by omega) (by omega)))
                    clear HM3 HM
                    rw [List.append_assoc, ← HT.out] at HM4
                    have hl3 := congrArg List.length HT.out
                    rw [List.length_append, List.length_singleton] at hl3
                    rw [List.length_append] at hlen
                    go_roundw
                    case rel => exact ⟨_, _, by omega, by go_num, rfl, HM4.out, by rw [List.length_append]; omega⟩
                    case measure => simp [intOf]
                  · go_wp2_with (at_builtin; refine app_list rfl _ _ rfl rfl (HM.out.two _ _).own _ (((own_three W2 _ _ _).base hsz).alloc _) rfl (by rw [cell_two]; rfl) (by omega) (by rw [World.size_alloc, World.size_alloc]; omega) ?_; intro z' w3 hown1 hgrow; have HM3 := Lib.hid ((HM.out.two _ _).push hown1 hgrow); clear hown1 hgrow)
                    have HM4 := Lib.hid (mo_row HM3.out (r' := rowT m hh x y 2) (row_eq (by omega) (by omega) (by omega)))
                    clear HM3 HM
                    rw [List.append_assoc, ← HT.out] at HM4
                    have hl3 := congrArg List.length HT.out
                    rw [List.length_append, List.length_singleton] at hl3
                    rw [List.length_append] at hlen
                    go_roundw
                    case rel => exact ⟨_, _, by omega, by go_num, rfl, HM4.out, by rw [List.length_append]; omega⟩
                    case measure => simp [intOf]
                · obtain rfl : i = 3 := by omega
                  rw [HL2.out, List.append_assoc, ← HX2.out] at hlen HM
                  go_wp2_with fail
                  go_roundw
                  case rel => exact ⟨y + 1, _, by omega, by omega, by go_num, rfl, HM.out, by omega⟩
                  case measure => simp [intOf]; omega
            · obtain rfl : y = m := by omega
              rw [HL1.out, List.append_assoc, ← HX.out] at hlen HM
              go_wp2_with fail
              go_roundw
              case rel => exact ⟨x + 1, _, by omega, by go_num, rfl, HM.out, by omega⟩
              case measure => simp [intOf]; omega
        · obtain rfl : x = m := by omega
          rw [← HE.out] at HM hL
          have hIn2 := HIn.out _ W0 (HM.out.own.rowsAt (by omega) (fun i hi => by rw [HAl.out i hi]; omega)) (by omega)
          have HIn2 := Lib.hid hIn2
          have hsl := HSl.out
          clear hIn2 HIn
          go_wp2_with fail
          refine (HIn2.out).mono ?_
          rintro e w5 ⟨u, rfl, hown, hb⟩
          obtain ⟨hA, hB5, hK⟩ := HM.out.keep hown hb (by omega) HLen.out
          have HA := Lib.hid hA; have HB5 := Lib.hid hB5; have HK := Lib.hid hK
          obtain ⟨ua, uc, rfl⟩ := hown.shape
          have d2 := hA.cell (show 0 < 2 by omega); have d3 := hA.cell (show 1 < 2 by omega); have d4 := hA.free (show 0 < 2 by omega); have d5 := hA.free (show 1 < 2 by omega)
          clear hA hB5 hK hown hb HIn2 HM hsl
          go_wp2_with fail
          exact bodyPost_ret (results_pairT (p := 2) (u := 3) rfl (mk_last HA.out) Try.underlying24 rfl (by kernel_rfl) rfl) rfl (mk_done HB5.out HK.out)
set_option maxRecDepth 100000 in
set_option maxHeartbeats 8000000 in
theorem makeOf_one (n t : Nat) (w : World) (h2 : n ≤ 33) (hn : n = 6 * t + 1) : Calls Try.prog 5 #[.int .i64 (n : Nat)] w (MkPost n (sortR ((ref1 t).map sortI)) 0 w) := by
  have HM := Lib.hid (MoRel.begin w 24)
  obtain ⟨R, yss, hR, hY, hAl, hsl, hLen, hIn⟩ := rows_facts (ref1 t) (ref1_all t)
  rw [← hY]
  have HAl := Lib.hid hAl; have HSl := Lib.hid hsl; have HLen := Lib.hid hLen; have HIn := Lib.hid hIn
  have e1 : decide ((n : Int) < 1) = false := by simp; omega
  have e2 : decide ((33 : Int) < (n : Int)) = false := by simp; omega
  have e3 : (n : Int) % 6 = 1 := by omega
  have e4 : (n : Int) / 6 = (t : Int) := by omega
  have ht : t ≤ 5 := by omega
  obtain ⟨m, hm⟩ : ∃ m, m = 2 * t := ⟨_, rfl⟩
  have HE : Hid (R = rA1 t m t ++ rB (hS t m) m m) := by show _ = _; rw [hR, hm]; rfl
  have hmv : 2 * (t : Int) = (m : Int) := by omega
  have hm11 : m ≤ 11 := by omega
  have HMm := Lib.hid hm
  clear hm hn hR hY hAl hsl hLen hIn
  go_enter Try.func5, Try.ntmps5
  go_wp2_with fail
  try simp only [e3]
  go_loopw [8, 4] (fun s l wr => ∃ (k : Nat) (z : Value), k ≤ t ∧ s = .int .i64 k ∧ l = z ∧ MoRel w wr z (rA1 t m k) ∧ (rA1 t m k).length ≤ 4 * k) (fun s _ _ => t - (intOf s).toNat)
  case atStart => exact ⟨0, _, by omega, rfl, rfl, HM.out, by simp [rA1, catF]⟩
  case round =>
    clear HM
    obtain ⟨k, z, hk, rfl, hz, hM, hL⟩ := hrel
    subst hz
    rename World => W0
    have HM := Lib.hid hM
    have hsz := hM.size
    clear hM
    by_cases hlt : k < t
    · have HX : Hid (rA1 t m (k + 1) = rA1 t m k ++ ([rowD m k] ++ rS3 t m k 3)) := catF_step (Nat.zero_le _)
      generalize rA1 t m k = L0 at *
      go_wp2_with (at_builtin; refine app_list rfl _ _ rfl rfl (HM.out.two _ _).own _ (((own_three W0 _ _ _).base hsz).alloc _) rfl (by rw [cell_two]; rfl) (by omega) (by rw [World.size_alloc, World.size_alloc]; omega) ?_; intro z' w3 hown1 hgrow; have HM3 := Lib.hid ((HM.out.two _ _).push hown1 hgrow); clear hown1 hgrow)
      have HM4 := Lib.hid (mo_row HM3.out (r' := rowD m k) (row_eq (by omega) (by omega) (by omega)))
      clear HM3 HM
      obtain ⟨L1, hL1⟩ : ∃ L, L = L0 ++ [rowD m k] := ⟨_, rfl⟩
      have HL1 := Lib.hid hL1
      have hlen1 : L1.length ≤ 4 * k + 1 := by rw [hL1, List.length_append]; simp; omega
      rw [← hL1] at HM4
      clear hL1
      try simp only [e3, e4, hmv]
      go_loopw [9, 4] (fun s l wr => ∃ (i : Nat) (z : Value), i ≤ 3 ∧ s = .int .i64 i ∧ l = z ∧ MoRel w wr z (L1 ++ rS3 t m k i) ∧ (L1 ++ rS3 t m k i).length ≤ 4 * k + 1 + i) (fun s _ _ => 3 - (intOf s).toNat)
      case atStart => exact ⟨0, _, by omega, rfl, rfl, by simpa [rS3, catF] using HM4.out, by simpa [rS3, catF] using hlen1⟩
      case round =>
        clear HM4 hsz
        obtain ⟨i, z, hi, rfl, hz, hM, hlen⟩ := hrel
        subst hz
        rename World => W2
        have HM := Lib.hid hM
        have hsz := hM.size
        have HT : Hid (rS3 t m k (i + 1) = rS3 t m k i ++ [rowS t m k i]) := catF_step (Nat.zero_le _)
        clear hM
        by_cases hi3 : i < 3
        · have hi012 : i = 0 ∨ i = 1 ∨ i = 2 := by omega
          rcases hi012 with rfl | rfl | rfl
          · go_wp2_with (at_builtin; refine app_list rfl _ _ rfl rfl (HM.out.two _ _).own _ (((own_three W2 _ _ _).base hsz).alloc _) rfl (by rw [cell_two]; rfl) (by omega) (by rw [World.size_alloc, World.size_alloc]; omega) ?_; intro z' w3 hown1 hgrow; have HM3 := Lib.hid ((HM.out.two _ _).push hown1 hgrow); clear hown1 hgrow)
            have HM4 := Lib.hid (mo_row HM3.out (r' := rowS t m k 0) (row_eq (by omega) (by omega) (by omega)))
            clear HM3 HM
            rw [List.append_assoc, ← HT.out] at HM4
            have hl3 := congrArg List.length HT.out
            rw [List.length_append, List.length_singleton] at hl3
            rw [List.length_append] at hlen
            go_roundw
            case rel => exact ⟨_, _, by omega, by go_num, rfl, HM4.out, by rw [List.length_append]; omega⟩
            case measure => simp [intOf]
          · go_wp2_with (at_builtin; refine app_list rfl _ _ rfl rfl (HM.out.two _ _).own _ (((own_three W2 _ _ _).base hsz).alloc _) rfl (by rw [cell_two]; rfl) (by omega) (by rw [World.size_alloc, World.size_alloc]; omega) ?_; intro z' w3 hown1 hgrow; have HM3 := Lib.hid ((HM.out.two _ _).push hown1 hgrow); clear hown1 hgrow)
            have HM4 := Lib.hid (mo_row HM3.out (r' := rowS t m k 1) (row_eq (by omega) (by omega) (by omega)))
            clear HM3 HM
            rw [List.append_assoc, ← HT.out] at HM4
            have hl3 := congrArg List.length HT.out
            rw [List.length_append, List.length_singleton] at hl3
            rw [List.length_append] at hlen
            go_roundw
            case rel => exact ⟨_, _, by omega, by go_num, rfl, HM4.out, by rw [List.length_append]; omega⟩
            case measure => simp [intOf]
          · go_wp2_with (at_builtin; refine app_list rfl _ _ rfl rfl (HM.out.two _ _).own _ (((own_three W2 _ _ _).base hsz).alloc _) rfl (by rw [cell_two]; rfl) (by omega) (by rw [World.size_alloc, World.size_alloc]; omega) ?_; intro z' w3 hown1 hgrow; have HM3 := Lib.hid ((HM.out.two _ _).push hown1 hgrow); clear hown1 hgrow)
            have HM4 := Lib.hid (mo_row HM3.out (r' := rowS t m k 2) (row_eq (by omega) (by omega) (by omega)))
            clear HM3 HM
            rw [List.append_assoc, ← HT.out] at HM4
            have hl3 := congrArg List.length HT.out
            rw [List.length_append, List.length_singleton] at hl3
            rw [List.length_append] at hlen
            go_roundw
            case rel => exact ⟨_, _, by omega, by go_num, rfl, HM4.out, by rw [List.length_append]; omega⟩
            case measure => simp [intOf]
        · obtain rfl : i = 3 := by omega
          rw [HL1.out, List.append_assoc, ← HX.out] at hlen HM
          go_wp2_with fail
          go_roundw
          case rel => exact ⟨k + 1, _, by omega, by go_num, rfl, HM.out, by omega⟩
          case measure => simp [intOf]; omega
    · have hkt : t = k := by omega
      subst hkt
      obtain ⟨K0, hK0⟩ : ∃ L, L = rA1 t m t := ⟨_, rfl⟩
      rw [← hK0] at HM hL HE
      clear hK0
      go_wp2_with fail
      try simp only [e3, e4, hmv]
      go_loopw [10, 4] (fun s l wr => ∃ (x : Nat) (z : Value), x ≤ m ∧ s = .int .i64 x ∧ l = z ∧ MoRel w wr z (K0 ++ rB (hS t m) m x) ∧ (K0 ++ rB (hS t m) m x).length ≤ 100 + 40 * x) (fun s _ _ => m - (intOf s).toNat)
      case atStart => exact ⟨0, _, by omega, rfl, rfl, by simpa [rB, catF] using HM.out, by simp [rB, catF]; omega⟩
      case round =>
        clear HM hL
        obtain ⟨x, z, hx, rfl, hz, hM, hL⟩ := hrel
        subst hz
        rename World => W0
        have HM := Lib.hid hM
        clear hM
        by_cases hlx : x < m
        · have HX : Hid (rB (hS t m) m (x + 1) = rB (hS t m) m x ++ rY (hS t m) m x m) := catF_step (Nat.zero_le _)
          obtain ⟨L1, hL1⟩ : ∃ L, L = K0 ++ rB (hS t m) m x := ⟨_, rfl⟩
          rw [← hL1] at hL HM
          have HL1 := Lib.hid hL1
          clear hL1
          go_wp2_with fail
          try simp only [e3, e4, hmv]
          go_loopw [11, 4] (fun s l wr => ∃ (y : Nat) (z : Value), x + 1 ≤ y ∧ y ≤ m ∧ s = .int .i64 y ∧ l = z ∧ MoRel w wr z (L1 ++ rY (hS t m) m x y) ∧ (L1 ++ rY (hS t m) m x y).length ≤ 100 + 40 * x + 3 * (y - (x + 1))) (fun s _ _ => m - (intOf s).toNat)
          case atStart => exact ⟨x + 1, _, by omega, by omega, by go_num, rfl, by rw [rY, catF_start, List.append_nil]; exact HM.out, by rw [rY, catF_start, List.append_nil]; omega⟩
          case round =>
            clear HM
            obtain ⟨y, z, hxy, hy, rfl, hz, hM, hlen⟩ := hrel
            subst hz
            rename World => W1
            have HM := Lib.hid hM
            clear hM
            by_cases hly : y < m
            · have HX2 : Hid (rY (hS t m) m x (y + 1) = rY (hS t m) m x y ++ rT3 m (hS t m x y) x y 3) := catF_step hxy
              obtain ⟨L2, hL2⟩ : ∃ L, L = L1 ++ rY (hS t m) m x y := ⟨_, rfl⟩
              rw [← hL2] at hlen HM
              have HL2 := Lib.hid hL2
              have hm0 : ¬ m = 0 := by omega
              clear hL2
              obtain ⟨hv, hP⟩ := hB_val (t := t) (x := x) (y := y) ht (by omega) (by omega)
              have hsm : (x + y) % m < m := Nat.mod_lt _ (by omega)
              have hw : ((x : Int) + (y : Int)) % (m : Int) = (((x + y) % m : Nat) : Int) := by rw [← Int.natCast_add, ← Int.natCast_emod]
              have hpm : (((x + y) * (t + 1) : Nat) : Int) % (m : Int) = (((x + y) * (t + 1) % m : Nat) : Int) := by rw [← Int.natCast_emod]
              have HHS : Hid (hS t m x y = if (x + y) % m % 2 = 0 then (x + y) % m / 2 else ((x + y) % m - 1) / 2 + t) := rfl
              generalize hS t m x y = hh at *
              generalize (x + y) * (t + 1) % m = PM at *
              generalize (x + y) * (t + 1) = P at *
              generalize (x + y) % m = S at *
              by_cases hev : S % 2 = 0
              · have hhv := HHS.out
                rw [if_pos hev] at hhv
                have ev : (((S : Nat) : Int) % 2 == 1) = false := by simp; omega
                have hq : ((S : Nat) : Int) / 2 = (hh : Int) := by omega
                have hhl : hh < m := by omega
                clear hhv HHS hev
                go_wp2_with fail
                simp only [hv, hpm, hw, e3]
                clear hq hw ev hv hpm
                go_loopw [14, 4] (fun s l wr => ∃ (i : Nat) (z : Value), i ≤ 3 ∧ s = .int .i64 i ∧ l = z ∧ MoRel w wr z (L2 ++ rT3 m hh x y i) ∧ (L2 ++ rT3 m hh x y i).length ≤ 100 + 40 * x + 3 * (y - (x + 1)) + i) (fun s _ _ => 3 - (intOf s).toNat)
                case atStart => exact ⟨0, _, by omega, rfl, rfl, by simpa [rT3, catF] using HM.out, by simpa [rT3, catF] using hlen⟩
                case round =>
                  clear HM hlen
                  obtain ⟨i, z, hi, rfl, hz, hM, hlen⟩ := hrel
                  subst hz
                  rename World => W2
                  have HM := Lib.hid hM
                  have hsz := hM.size
                  have HT : Hid (rT3 m hh x y (i + 1) = rT3 m hh x y i ++ [rowT m hh x y i]) := catF_step (Nat.zero_le _)
                  clear hM
                  by_cases hi3 : i < 3
                  · have hi012 : i = 0 ∨ i = 1 ∨ i = 2 := by omega
                    rcases hi012 with rfl | rfl | rfl
                    · go_wp2_with (at_builtin; refine app_list rfl _ _ rfl rfl (HM.out.two _ _).own _ (((own_three W2 _ _ _).base hsz).alloc _) rfl (by rw [cell_two]; rfl) (by omega) (by rw [World.size_alloc, World.size_alloc]; omega) ?_; intro z' w3 hown1 hgrow; have HM3 := Lib.hid ((HM.out.two _ _).push hown1 hgrow); clear hown1 hgrow)
                      have HM4 := Lib.hid (mo_row HM3.out (r' := rowT m hh x y 0) (row_eq (by omega) (by omega) (by omega)))
                      clear HM3 HM
                      rw [List.append_assoc, ← HT.out] at HM4
                      have hl3 := congrArg List.length HT.out
                      rw [List.length_append, List.length_singleton] at hl3
                      rw [List.length_append] at hlen
                      go_roundw
                      case rel => exact ⟨_, _, by omega, by go_num, rfl, HM4.out, by rw [List.length_append]; omega⟩
                      case measure => simp [intOf]
                    · go_wp2_with (at_builtin; refine app_list rfl _ _ rfl rfl (HM.out.two _ _).own _ (((own_three W2 _ _ _).base hsz).alloc _) rfl (by rw [cell_two]; rfl) (by omega) (by rw [World.size_alloc, World.size_alloc]; omega) ?_; intro z' w3 hown1 hgrow; have HM3 := Lib.hid ((HM.out.two _ _).push hown1 hgrow); clear hown1 hgrow)
                      have HM4 := Lib.hid (mo_row HM3.out (r' := rowT m hh x y 1) (row_eq (by omega) (by omega) (by omega)))
                      clear HM3 HM
                      rw [List.append_assoc, ← HT.out] at HM4
                      have hl3 := congrArg List.length HT.out
                      rw [List.length_append, List.length_singleton] at hl3
                      rw [List.length_append] at hlen
                      go_roundw
                      case rel => exact ⟨_, _, by omega, by go_num, rfl, HM4.out, by rw [List.length_append]; omega⟩
                      case measure => simp [intOf]
                    · go_wp2_with (at_builtin; refine app_list rfl _ _ rfl rfl (HM.out.two _ _).own _ (((own_three W2 _ _ _).base hsz).alloc _) rfl (by rw [cell_two]; rfl) (by omega) (by rw [World.size_alloc, World.size_alloc]; omega) ?_; intro z' w3 hown1 hgrow; have HM3 := Lib.hid ((HM.out.two _ _).push hown1 hgrow); clear hown1 hgrow)
                      have HM4 := Lib.hid (mo_row HM3.out (r' := rowT m hh x y 2) (row_eq (by omega) (by omega) (by omega)))
                      clear HM3 HM
                      rw [List.append_assoc, ← HT.out] at HM4
                      have hl3 := congrArg List.length HT.out
                      rw [List.length_append, List.length_singleton] at hl3
                      rw [List.length_append] at hlen
                      go_roundw
                      case rel => exact ⟨_, _, by omega, by go_num, rfl, HM4.out, by rw [List.length_append]; omega⟩
                      case measure => simp [intOf]
                  · obtain rfl : i = 3 := by omega
                    rw [HL2.out, List.append_assoc, ← HX2.out] at hlen HM
                    go_wp2_with fail
                    go_roundw
                    case rel => exact ⟨y + 1, _, by omega, by omega, by go_num, rfl, HM.out, by omega⟩
                    case measure => simp [intOf]; omega
              · have hhv := HHS.out
                rw [if_neg hev] at hhv
                have ev : (((S : Nat) : Int) % 2 == 1) = true := by simp; omega
                obtain ⟨q, hq0⟩ : ∃ q, q = (S - 1) / 2 := ⟨_, rfl⟩
                have hq : (((S : Nat) : Int) - 1) / 2 = (q : Int) := by omega
                have hq1 : ((S : Nat) : Int) / 2 = (q : Int) := by omega
                have hq2 : (q : Int) + (t : Int) = (hh : Int) := by omega
                have hhl : hh ≤ 10 := by omega
                have hqs : q ≤ 10 := by omega
                have hs1 : 1 ≤ S := by omega
                clear hhv HHS hev hq0
                go_wp2_with fail
                simp only [hv, hpm, hq, hw, e3]
                clear hq hq1 hq2 hw ev hv hpm
                go_loopw [14, 4] (fun s l wr => ∃ (i : Nat) (z : Value), i ≤ 3 ∧ s = .int .i64 i ∧ l = z ∧ MoRel w wr z (L2 ++ rT3 m hh x y i) ∧ (L2 ++ rT3 m hh x y i).length ≤ 100 + 40 * x + 3 * (y - (x + 1)) + i) (fun s _ _ => 3 - (intOf s).toNat)
                case atStart => exact ⟨0, _, by omega, rfl, rfl, by simpa [rT3, catF] using HM.out, by simpa [rT3, catF] using hlen⟩
                case round =>
                  clear HM hlen
                  obtain ⟨i, z, hi, rfl, hz, hM, hlen⟩ := hrel
                  subst hz
                  rename World => W2
                  have HM := Lib.hid hM
                  have hsz := hM.size
                  have HT : Hid (rT3 m hh x y (i + 1) = rT3 m hh x y i ++ [rowT m hh x y i]) := catF_step (Nat.zero_le _)
                  clear hM
                  by_cases hi3 : i < 3
                  · have hi012 : i = 0 ∨ i = 1 ∨ i = 2 := by omega
                    rcases hi012 with rfl | rfl | rfl
                    · go_wp2_with (at_builtin; refine app_list rfl _ _ rfl rfl (HM.out.two _ _).own _ (((own_three W2 _ _ _).base hsz).alloc _) rfl (by rw [cell_two]; rfl) (by omega) (by rw [World.size_alloc, World.size_alloc]; omega) ?_; intro z' w3 hown1 hgrow; have HM3 := Lib.hid ((HM.out.two _ _).push hown1 hgrow); clear hown1 hgrow)
                      have HM4 := Lib.hid (mo_row HM3.out (r' := rowT m hh x y 0) (row_eq (by omega) (by omega) (by omega)))
                      clear HM3 HM
                      rw [List.append_assoc, ← HT.out] at HM4
                      have hl3 := congrArg List.length HT.out
                      rw [List.length_append, List.length_singleton] at hl3
                      rw [List.length_append] at hlen
                      go_roundw
                      case rel => exact ⟨_, _, by omega, by go_num, rfl, HM4.out, by rw [List.length_append]; omega⟩
                      case measure => simp [intOf]
                    · go_wp2_with (at_builtin; refine app_list rfl _ _ rfl rfl (HM.out.two _ _).own _ (((own_three W2 _ _ _).base hsz).alloc _) rfl (by rw [cell_two]; rfl) (by omega) (by rw [World.size_alloc, World.size_alloc]; omega) ?_; intro z' w3 hown1 hgrow; have HM3 := Lib.hid ((HM.out.two _ _).push hown1 hgrow); clear hown1 hgrow)
                      have HM4 := Lib.hid (mo_row HM3.out (r' := rowT m hh x y 1) (row_eq (by omega) (by omega) (by omega)))
                      clear HM3 HM
                      rw [List.append_assoc, ← HT.out] at HM4
                      have hl3 := congrArg List.length HT.out
                      rw [List.length_append, List.length_singleton] at hl3
                      rw [List.length_append] at hlen
                      go_roundw
                      case rel => exact ⟨_, _, by omega, by go_num, rfl, HM4.out, by rw [List.length_append]; omega⟩
                      case measure => simp [intOf]
                    · go_wp2_with (at_builtin; refine app_list rfl _ _ rfl rfl (HM.out.two _ _).own _ (((own_three W2 _ _ _).base hsz).alloc _) rfl (by rw [cell_two]; rfl) (by omega) (by rw [World.size_alloc, World.size_alloc]; omega) ?_; intro z' w3 hown1 hgrow; have HM3 := Lib.hid ((HM.out.two _ _).push hown1 hgrow); clear hown1 hgrow)
                      have HM4 := Lib.hid (mo_row HM3.out (r' := rowT m hh x y 2) (row_eq (by omega) (by omega) (by omega)))
                      clear HM3 HM
                      rw [List.append_assoc, ← HT.out] at HM4
                      have hl3 := congrArg List.length HT.out
                      rw [List.length_append, List.length_singleton] at hl3
                      rw [List.length_append] at hlen
                      go_roundw
                      case rel => exact ⟨_, _, by omega, by go_num, rfl, HM4.out, by rw [List.length_append]; omega⟩
                      case measure => simp [intOf]
                  · obtain rfl : i = 3 := by omega
                    rw [HL2.out, List.append_assoc, ← HX2.out] at hlen HM
                    go_wp2_with fail
                    go_roundw
                    case rel => exact ⟨y + 1, _, by omega, by omega, by go_num, rfl, HM.out, by omega⟩
                    case measure => simp [intOf]; omega
            · obtain rfl : y = m := by omega
              rw [HL1.out, List.append_assoc, ← HX.out] at hlen HM
              go_wp2_with fail
              go_roundw
              case rel => exact ⟨x + 1, _, by omega, by go_num, rfl, HM.out, by omega⟩
              case measure => simp [intOf]; omega
        · obtain rfl : x = m := by omega
          rw [← HE.out] at HM hL
          have hIn2 := HIn.out _ W0 (HM.out.own.rowsAt (by omega) (fun i hi => by rw [HAl.out i hi]; omega)) (by omega)
          have HIn2 := Lib.hid hIn2
          have hsl := HSl.out
          clear hIn2 HIn
          go_wp2_with fail
          refine (HIn2.out).mono ?_
          rintro e w5 ⟨u, rfl, hown, hb⟩
          obtain ⟨hA, hB5, hK⟩ := HM.out.keep hown hb (by omega) HLen.out
          have HA := Lib.hid hA; have HB5 := Lib.hid hB5; have HK := Lib.hid hK
          obtain ⟨ua, uc, rfl⟩ := hown.shape
          have d2 := hA.cell (show 0 < 2 by omega); have d3 := hA.cell (show 1 < 2 by omega); have d4 := hA.free (show 0 < 2 by omega); have d5 := hA.free (show 1 < 2 by omega)
          clear hA hB5 hK hown hb HIn2 HM hsl
          go_wp2_with fail
          exact bodyPost_ret (results_pairT (p := 2) (u := 3) rfl (mk_last HA.out) Try.underlying24 rfl (by kernel_rfl) rfl) rfl (mk_done HB5.out HK.out)
end Go.Proofs.Ytimfggbfapbihaa
