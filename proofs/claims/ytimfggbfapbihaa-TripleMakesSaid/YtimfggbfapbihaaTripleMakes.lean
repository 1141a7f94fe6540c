/-
  The walk of TripleMakes: whatever the number, it returns true. No condition.
-/
import Derived.Test.YtimfggbfapbihaaTMakeOf
namespace Go.Proofs.Ytimfggbfapbihaa
open Go.RowKit

theorem catF_map (f : List Int → List Int) (F : Nat → List (List Int)) (a : Nat) : ∀ k, (catF F a k).map f = catF (fun i => (F i).map f) a k
  | 0 => rfl
  | k + 1 => by
    rw [catF, catF]
    by_cases e : a ≤ k
    · rw [if_pos e, if_pos e, List.map_append, catF_map f F a k]
    · rw [if_neg e, if_neg e]; rfl
theorem catF_congr {F G : Nat → List (List Int)} {a : Nat} (h : ∀ i, F i = G i) (k : Nat) : catF F a k = catF G a k := by rw [show F = G from funext h]
theorem perm_four (A B C D : List (List Int)) : ((A ++ B) ++ (C ++ D)).Perm ((A ++ C) ++ (B ++ D)) := by
  rw [List.append_assoc, List.append_assoc]
  refine List.Perm.append_left A ?_
  rw [← List.append_assoc, ← List.append_assoc]
  exact List.Perm.append_right D List.perm_append_comm
theorem catF_two (F G : Nat → List (List Int)) (a : Nat) : ∀ k, (catF (fun i => F i ++ G i) a k).Perm (catF F a k ++ catF G a k)
  | 0 => List.Perm.refl _
  | k + 1 => by
    rw [catF, catF, catF]
    by_cases e : a ≤ k
    · rw [if_pos e, if_pos e, if_pos e]
      exact (List.Perm.append_right _ (catF_two F G a k)).trans (perm_four _ _ _ _)
    · rw [if_neg e, if_neg e, if_neg e]; exact List.Perm.refl _
theorem rT3_map (m h x y : Nat) : (rT3 m h x y 3).map sortI = tri3 m h x y 3 := catF_map _ _ _ _
theorem rB_map (h : Nat → Nat → Nat) (m k : Nat) : (rB h m k).map sortI = catF (fun x => catF (fun y => tri3 m (h x y) x y 3) (x + 1) m) 0 k := by
  rw [rB, catF_map]
  refine catF_congr (fun x => ?_) k
  rw [rY, catF_map]
  exact catF_congr (fun y => rT3_map _ _ _ _) m
theorem bose_ref (t : Nat) : sortR (boseL t) = sortR ((ref3 t).map sortI) := by
  refine sortR_same ?_
  rw [ref3, List.map_append, rB_map, rA3, catF_map]
  exact catF_two (fun x => [sortI (rowD (2 * t + 1) x)]) (fun x => catF (boseY t (2 * t + 1) x) (x + 1) (2 * t + 1)) 0 (2 * t + 1)
theorem skolem_ref (t : Nat) : sortR (skoL t) = sortR ((ref1 t).map sortI) := by
  rw [ref1, List.map_append, rB_map, rA1, catF_map]
  have e : catF (fun x => ([rowD (2 * t) x] ++ rS3 t (2 * t) x 3).map sortI) 0 t = catF (skoX t (2 * t)) 0 t := catF_congr (fun x => by
    rw [List.map_append, rS3, catF_map]; rfl) t
  rw [e]; rfl
theorem make_both (v : Int) : ∃ (n : Int) (yss : List (List Int)) (e0 : Int), (∀ w, Calls Try.prog 4 #[.int .i64 v] w (MkPost n yss e0 w)) ∧ (∀ w, Calls Try.prog 5 #[.int .i64 v] w (MkPost n yss e0 w)) := by
  by_cases h : v < 1 ∨ 33 < v
  · exact ⟨0, [], 1, fun w => make_far v w h, fun w => makeOf_far v w h⟩
  · obtain ⟨n, rfl⟩ := Int.eq_ofNat_of_zero_le (show 0 ≤ v by omega)
    by_cases h3 : n % 6 = 3
    · refine ⟨n, sortR (boseL (n / 6)), 0, fun w => make_three n (n / 6) w (by omega) (by omega), fun w => ?_⟩
      rw [bose_ref]
      exact makeOf_three n (n / 6) w (by omega) (by omega)
    · by_cases h1 : n % 6 = 1
      · refine ⟨n, sortR (skoL (n / 6)), 0, fun w => make_one n (n / 6) w (by omega) (by omega), fun w => ?_⟩
        rw [skolem_ref]
        exact makeOf_one n (n / 6) w (by omega) (by omega)
      · exact ⟨0, [], 4, fun w => make_no n w (by omega) (by omega) h3 h1, fun w => makeOf_no n w (by omega) (by omega) h3 h1⟩
theorem shape_rows {w : World} {v : Value} {xss : List (List Int)} (h : RowsAt w v xss) : ∃ a c, v = .slice a xss.length c := by
  obtain ⟨a, c, _, h, _⟩ := h
  exact ⟨a, c, h⟩
theorem designs_same {p : Int} {u v : Value} {yss : List (List Int)} (w : World) (h : RowsAt w u yss) (g : RowsAt w v yss) :
    Calls Try.prog 6 #[.agg #[.int .i64 p, u], .agg #[.int .i64 p, v]] w fun e w' => e = .returned (.bool true) ∧ Below w.heap.size w w' := by
  have := designs_any p p u v yss yss w h g
  rw [eqL_refl, show (p == p) = true by simp] at this
  exact this

set_option maxRecDepth 100000 in
set_option maxHeartbeats 2000000 in
theorem tripleMakes_walk (v : Int) (w : World) (_hv : -9223372036854775808 ≤ v ∧ v ≤ 9223372036854775807) :
    Calls Try.prog 3 #[.int .i64 v] w fun e w' => e = .returned (.bool true) ∧ Below w.heap.size w w' := by
  obtain ⟨n, yss, e0, hm1, hm2⟩ := make_both v
  have HM1 := Lib.hid hm1; have HM2 := Lib.hid hm2
  have q1 : (e0 == e0) = true := by simp
  clear hm1 hm2
  go_enter Try.func3, Try.ntmps3
  go_wp2_with fail
  refine (HM1.out _).mono ?_
  rintro e w1 ⟨u, rfl, hr, hb⟩
  obtain ⟨ua, uc, rfl⟩ := shape_rows hr
  have HR := Lib.hid hr; have HB := Lib.hid hb
  clear hr hb HM1
  go_wp2_with fail
  refine (HM2.out _).mono ?_
  rintro e w2 ⟨u2, rfl, hr, hb⟩
  obtain ⟨ub, ud, rfl⟩ := shape_rows hr
  have hb1 := below_box w1 (.cells #[.int .i64 n, .slice ua yss.length uc] 24)
  have A1 := (pair_new w1 (.int .i64 n) (.slice ua yss.length uc) 24 _ rfl).below hb
  have x0 := A1.cell (show 0 < 2 by omega); have x1 := A1.cell (show 1 < 2 by omega); have xl := A1.lt
  have hb2 := below_box w2 (.cells #[.int .i64 n, .slice ub yss.length ud] 24)
  have hne : ¬ w1.heap.size = w2.heap.size := by omega
  have y0 := (World.cell?_alloc_old w2 (.cells #[.int .i64 n, .slice ub yss.length ud] 24) ⟨w1.heap.size, 0, none⟩ hne).trans x0
  have y1 := (World.cell?_alloc_old w2 (.cells #[.int .i64 n, .slice ub yss.length ud] 24) ⟨w1.heap.size, 1, none⟩ hne).trans x1
  have HD := Lib.hid (designs_same (p := n) _ ((HR.out.below (belowTrans hb1 hb)).below hb2) (hr.below hb2))
  have HB2 := Lib.hid (belowTrans HB.out (belowTrans (belowTrans hb1 hb) hb2))
  clear hr hb hb1 hb2 A1 x0 x1 HM2 HR HB
  go_wp2_with fail
  refine (HD.out).mono ?_
  rintro e w3 ⟨rfl, hb3⟩
  have HB3 := Lib.hid (belowTrans HB2.out hb3)
  clear hb3 HD HB2 y0 y1
  go_wp2_with fail
  go_ret
  exact ⟨rfl, HB3.out⟩
end Go.Proofs.Ytimfggbfapbihaa
