/-
  Contract: triple.Make. No condition.
-/
import Derived.Test.YtimfggbfapbihaaTDesign
import Derived.Test.YtimfggbfapbihaaTSkolem
namespace Go.Proofs.Ytimfggbfapbihaa
open Go.RowKit

theorem catF_len {F : Nat → List (List Int)} {a C : Nat} (h : ∀ i, (F i).length ≤ C) : ∀ k, (catF F a k).length ≤ C * k
  | 0 => by simp [catF]
  | k + 1 => by
    rw [catF]
    by_cases e : a ≤ k
    · have := catF_len (a := a) h k
      have := h k
      rw [if_pos e, List.length_append, Nat.mul_add]; omega
    · rw [if_neg e]; simp
theorem catF_all {F : Nat → List (List Int)} {a : Nat} {P : List Int → Prop} (h : ∀ i, ∀ r ∈ F i, P r) : ∀ k, ∀ r ∈ catF F a k, P r
  | 0, r, hr => by simp [catF] at hr
  | k + 1, r, hr => by
    rw [catF] at hr
    by_cases e : a ≤ k
    · rw [if_pos e, List.mem_append] at hr
      rcases hr with hr | hr
      · exact catF_all h k r hr
      · exact h k r hr
    · rw [if_neg e] at hr; cases hr
theorem tri3_len (m h x y : Nat) : (tri3 m h x y 3).length ≤ 3 := catF_len (C := 1) (fun i => by simp) 3
theorem tri3_all (m h x y : Nat) : ∀ r ∈ tri3 m h x y 3, r.length = 3 := catF_all (fun i r hr => by rw [List.mem_singleton] at hr; rw [hr, sortI_len]; rfl) 3
theorem boseL_len {t : Nat} (ht : t ≤ 5) : (boseL t).length < 1000000 := by
  have h : (boseL t).length ≤ 34 * (2 * t + 1) := catF_len (fun x => by
    have := catF_len (F := boseY t (2 * t + 1) x) (a := x + 1) (C := 3) (fun y => tri3_len _ _ _ _) (2 * t + 1)
    rw [boseX, List.length_append, List.length_singleton]; omega) _
  omega
theorem boseL_all (t : Nat) : ∀ r ∈ boseL t, r.length = 3 := catF_all (fun x r hr => by
  rw [boseX, List.mem_append, List.mem_singleton] at hr
  rcases hr with hr | hr
  · rw [hr, sortI_len]; rfl
  · exact catF_all (fun y r hr => tri3_all _ _ _ _ r hr) _ r hr) _
theorem skoT_len (t m x : Nat) : (skoT t m x 3).length ≤ 3 := catF_len (C := 1) (fun i => by simp) 3
theorem skoL_len {t : Nat} (ht : t ≤ 5) : (skoL t).length < 1000000 := by
  have h1 : (catF (skoX t (2 * t)) 0 t).length ≤ 4 * t := catF_len (fun x => by
    have := skoT_len t (2 * t) x
    rw [skoX, List.length_append, List.length_singleton]; omega) _
  have h2 : (catF (skoZ t (2 * t)) 0 (2 * t)).length ≤ 30 * (2 * t) := catF_len (fun x => by
    have := catF_len (F := skoY t (2 * t) x) (a := x + 1) (C := 3) (fun y => tri3_len _ _ _ _) (2 * t)
    rw [skoZ]; omega) _
  rw [skoL, List.length_append]; omega
theorem skoL_all (t : Nat) : ∀ r ∈ skoL t, r.length = 3 := fun r hr => by
  rw [skoL, List.mem_append] at hr
  rcases hr with hr | hr
  · exact catF_all (P := fun r => r.length = 3) (fun x r hr => by
      rw [skoX, List.mem_append, List.mem_singleton] at hr
      rcases hr with hr | hr
      · rw [hr, sortI_len]; rfl
      · exact catF_all (P := fun r => r.length = 3) (fun i r hr => by rw [List.mem_singleton] at hr; rw [hr, sortI_len]; rfl) 3 r hr) _ r hr
  · exact catF_all (fun x r hr => catF_all (fun y r hr => tri3_all _ _ _ _ r hr) _ r hr) _ r hr
theorem all_rx {xss : List (List Int)} (h : ∀ r ∈ xss, r.length = 3) : ∀ (i : Nat), i < xss.length → (rx xss i).length = 3 := fun _ hi => h _ (rx_mem hi)

/-- A design and a fault are handed back. -/
def MkPost (n : Int) (yss : List (List Int)) (e0 : Int) (w : World) (e : Ending) (w' : World) : Prop := ∃ v, e = .returned (.tuple #[.agg #[.int .i64 n, v], .int .i64 e0]) ∧ RowsAt w' v yss ∧ Below w.heap.size w w'
theorem mk_box (w : World) (t : TypeId) : Arr (w.alloc (.cells #[.int .i64 0, .slice none 0 0] t)) w.heap.size 2 (fun j => if j = 0 then .int .i64 0 else .slice none 0 0) := pair_new _ _ _ _ _ rfl
theorem mk_last {w1 : World} {r : Nat} {p : Int} {v : Value} (hA : Arr w1 r 2 (fun j => if j = 0 then Value.int .i64 0 else .slice none 0 0)) :
    Arr ((w1.setCell ⟨r, 0, none⟩ (.int .i64 p)).setCell ⟨r, 1, none⟩ v) r 2 (fun j => if j = 0 then Value.int .i64 p else v) :=
  ((hA.set (show 0 < 2 by omega) (.int .i64 p)).set (show 1 < 2 by omega) v).congr fun j hj => by
    rcases j with _ | _ | j
    · rfl
    · rfl
    · omega
theorem mk_none {w w' : World} (hb : Below w.heap.size w w') (e0 : Int) :
    MkPost 0 [] e0 w (.returned (.tuple #[.agg ((List.range 2).map (fun j => if j = 0 then Value.int .i64 0 else .slice none 0 0)).toArray, .int .i64 e0])) w' :=
  ⟨.slice none 0 0, rfl, rows_nil _, hb⟩
theorem mk_done {w w' : World} {n : Int} {v : Value} {yss : List (List Int)} (hb : Below w.heap.size w w') (hk : KeepT yss v (w.heap.size + 1) w') :
    MkPost n yss 0 w (.returned (.tuple #[.agg ((List.range 2).map (fun j => if j = 0 then Value.int .i64 n else v)).toArray, .int .i64 0])) ((w'.setCell ⟨w.heap.size, 0, none⟩ (.int .i64 n)).setCell ⟨w.heap.size, 1, none⟩ v) :=
  ⟨v, rfl, hk _ (fun b o hb => by rw [World.cell?_setCell_other _ _ _ _ (by intro e; have := congrArg Addr.block e; dsimp only at this; omega), World.cell?_setCell_other _ _ _ _ (by intro e; have := congrArg Addr.block e; dsimp only at this; omega)]) (by simp),
    (hb.setCell (by show _ ≤ w.heap.size; omega) _).setCell (by show _ ≤ w.heap.size; omega) _⟩
theorem sys_new (w : World) (p : Int) (u : TypeId) (t : TypeId) : Sys ((w.alloc (.cells #[.int .i64 0, .slice none 0 0] t)).alloc (.cells #[.slice none 0 0, .int .i64 p] u)) (w.heap.size + 1) p (.slice none 0 0) [] :=
  ⟨pair_new _ _ _ _ _ (by simp), ownL_nil _ _⟩
theorem KeepT.low {yss : List (List Int)} {v : Value} {B C : Nat} {w : World} (h : KeepT yss v B w) (hC : C ≤ B) : KeepT yss v C w := fun w'' hc hz => h w'' (fun b o hb => hc b o (by omega)) hz

set_option maxRecDepth 100000 in
set_option maxHeartbeats 2000000 in
theorem make_far (v : Int) (w : World) (h : v < 1 ∨ 33 < v) : Calls Try.prog 4 #[.int .i64 v] w (MkPost 0 [] 1 w) := by
  have HD := Lib.hid (below_box w (.cells #[.int .i64 0, .slice none 0 0] 24))
  have HA := Lib.hid (mk_box w 24)
  by_cases h1 : v < 1
  · have e1 : decide (v < 1) = true := by simpa using h1
    clear h
    go_enter Try.func4, Try.ntmps4
    go_wp2_with fail
    exact bodyPost_ret (results_pairT (p := 2) (u := 3) rfl HA.out Try.underlying24 rfl (by kernel_rfl) rfl) rfl (mk_none HD.out 1)
  · have e1 : decide (v < 1) = false := by simpa using h1
    have e2 : decide (33 < v) = true := by simp; omega
    clear h
    go_enter Try.func4, Try.ntmps4
    go_wp2_with fail
    exact bodyPost_ret (results_pairT (p := 2) (u := 3) rfl HA.out Try.underlying24 rfl (by kernel_rfl) rfl) rfl (mk_none HD.out 1)
set_option maxRecDepth 100000 in
set_option maxHeartbeats 2000000 in
theorem make_no (n : Nat) (w : World) (h1 : 1 ≤ n) (h2 : n ≤ 33) (h3 : n % 6 ≠ 3) (h4 : n % 6 ≠ 1) : Calls Try.prog 4 #[.int .i64 (n : Nat)] w (MkPost 0 [] 4 w) := by
  have HD := Lib.hid (belowTrans (below_box w (.cells #[.int .i64 0, .slice none 0 0] 24)) (below_box (w.alloc (.cells #[.int .i64 0, .slice none 0 0] 24)) (.cells #[.slice none 0 0, .int .i64 (n : Nat)] 34)))
  have HA := Lib.hid ((mk_box w 24).alloc (.cells #[.slice none 0 0, .int .i64 (n : Nat)] 34))
  have e1 : decide ((n : Int) < 1) = false := by simp; omega
  have e2 : decide ((33 : Int) < (n : Int)) = false := by simp; omega
  have e3 : ((n : Int) % 6 == 3) = false := by simp; omega
  have e4 : ((n : Int) % 6 == 1) = false := by simp; omega
  clear h3 h4
  go_enter Try.func4, Try.ntmps4
  go_wp2_with fail
  exact bodyPost_ret (results_pairT (p := 2) (u := 3) rfl HA.out Try.underlying24 rfl (by kernel_rfl) rfl) rfl (mk_none HD.out 4)
set_option maxRecDepth 100000 in
set_option maxHeartbeats 2000000 in
theorem make_three (n t : Nat) (w : World) (h2 : n ≤ 33) (hn : n = 6 * t + 3) : Calls Try.prog 4 #[.int .i64 (n : Nat)] w (MkPost n (sortR (boseL t)) 0 w) := by
  have HB0 := Lib.hid ((Below.refl (w.heap.size + 1) (w.alloc (.cells #[.int .i64 0, .slice none 0 0] 24))).alloc (by simp) (.cells #[.slice none 0 0, .int .i64 (n : Nat)] 34))
  have HD := Lib.hid (below_box w (.cells #[.int .i64 0, .slice none 0 0] 24))
  have HA := Lib.hid (mk_box w 24)
  have HF := Lib.hid (bose_any (w.heap.size + 1) t n _ (sys_new w n 34 24) (by omega))
  have HLn := Lib.hid (boseL_len (t := t) (by omega)); have HAl := Lib.hid (all_rx (boseL_all t))
  have e1 : decide ((n : Int) < 1) = false := by simp; omega
  have e2 : decide ((33 : Int) < (n : Int)) = false := by simp; omega
  have e3 : (n : Int) % 6 = 3 := by omega
  have e4 : (n : Int) / 6 = (t : Int) := by omega
  clear hn
  go_enter Try.func4, Try.ntmps4
  go_wp2_with fail
  refine (HF.out).mono ?_
  rintro e w3 ⟨rfl, v3, hs3, hb3⟩
  have HDg := Lib.hid (design_any _ _ _ _ _ hs3 HLn.out HAl.out)
  have HB3 := Lib.hid (HB0.out.trans hb3)
  clear hs3 hb3 HF
  go_wp2_with fail
  refine (HDg.out).mono ?_
  rintro e w4 ⟨u, rfl, hk, hb4⟩
  obtain ⟨ua, uc, rfl⟩ : ∃ a c, u = .slice a (sortR (boseL t)).length c := by
    obtain ⟨a, c, _, h, _⟩ := hk.rows
    exact ⟨a, c, h⟩
  have hb5 := HB3.out.trans hb4
  have HA4 := Lib.hid (HA.out.belowB hb5 (by omega))
  have HB5 := Lib.hid (HD.out.trans (hb5.mono (show w.heap.size ≤ w.heap.size + 1 by omega)))
  have HK := Lib.hid (hk.low (show w.heap.size + 1 ≤ w.heap.size + 1 + 1 by omega))
  have d2 := HA4.out.cell (show 0 < 2 by omega); have d3 := HA4.out.cell (show 1 < 2 by omega); have d4 := HA4.out.free (show 0 < 2 by omega); have d5 := HA4.out.free (show 1 < 2 by omega)
  clear hb4 hb5 hk HDg
  generalize sortR (boseL t) = yss at *
  go_wp2_with fail
  exact bodyPost_ret (results_pairT (p := 2) (u := 3) rfl (mk_last HA4.out) Try.underlying24 rfl (by kernel_rfl) rfl) rfl (mk_done HB5.out HK.out)
set_option maxRecDepth 100000 in
set_option maxHeartbeats 2000000 in
theorem make_one (n t : Nat) (w : World) (h2 : n ≤ 33) (hn : n = 6 * t + 1) : Calls Try.prog 4 #[.int .i64 (n : Nat)] w (MkPost n (sortR (skoL t)) 0 w) := by
  have HB0 := Lib.hid ((Below.refl (w.heap.size + 1) (w.alloc (.cells #[.int .i64 0, .slice none 0 0] 24))).alloc (by simp) (.cells #[.slice none 0 0, .int .i64 (n : Nat)] 34))
  have HD := Lib.hid (below_box w (.cells #[.int .i64 0, .slice none 0 0] 24))
  have HA := Lib.hid (mk_box w 24)
  have HF := Lib.hid (skolem_any (w.heap.size + 1) t n _ (sys_new w n 34 24) (by omega))
  have HLn := Lib.hid (skoL_len (t := t) (by omega)); have HAl := Lib.hid (all_rx (skoL_all t))
  have e1 : decide ((n : Int) < 1) = false := by simp; omega
  have e2 : decide ((33 : Int) < (n : Int)) = false := by simp; omega
  have e3 : (n : Int) % 6 = 1 := by omega
  have e4 : (n : Int) / 6 = (t : Int) := by omega
  clear hn
  go_enter Try.func4, Try.ntmps4
  go_wp2_with fail
  refine (HF.out).mono ?_
  rintro e w3 ⟨rfl, v3, hs3, hb3⟩
  have HDg := Lib.hid (design_any _ _ _ _ _ hs3 HLn.out HAl.out)
  have HB3 := Lib.hid (HB0.out.trans hb3)
  clear hs3 hb3 HF
  go_wp2_with fail
  refine (HDg.out).mono ?_
  rintro e w4 ⟨u, rfl, hk, hb4⟩
  obtain ⟨ua, uc, rfl⟩ : ∃ a c, u = .slice a (sortR (skoL t)).length c := by
    obtain ⟨a, c, _, h, _⟩ := hk.rows
    exact ⟨a, c, h⟩
  have hb5 := HB3.out.trans hb4
  have HA4 := Lib.hid (HA.out.belowB hb5 (by omega))
  have HB5 := Lib.hid (HD.out.trans (hb5.mono (show w.heap.size ≤ w.heap.size + 1 by omega)))
  have HK := Lib.hid (hk.low (show w.heap.size + 1 ≤ w.heap.size + 1 + 1 by omega))
  have d2 := HA4.out.cell (show 0 < 2 by omega); have d3 := HA4.out.cell (show 1 < 2 by omega); have d4 := HA4.out.free (show 0 < 2 by omega); have d5 := HA4.out.free (show 1 < 2 by omega)
  clear hb4 hb5 hk HDg
  generalize sortR (skoL t) = yss at *
  go_wp2_with fail
  exact bodyPost_ret (results_pairT (p := 2) (u := 3) rfl (mk_last HA4.out) Try.underlying24 rfl (by kernel_rfl) rfl) rfl (mk_done HB5.out HK.out)
end Go.Proofs.Ytimfggbfapbihaa
