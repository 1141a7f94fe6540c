/-
  Contract: all of a table, at whatever is asked quietly. No condition.
-/
import Derived.Test.YtkmfhnjadpdkeaaDoorAll
namespace Go.Proofs.YtkmfhnjadpdkeaaDoor
open Go.RowKit

def allZ (p : Nat → Nat → Nat → Bool) (m x y : Nat) : Bool := allTo (p x y) m
def allY (p : Nat → Nat → Nat → Bool) (m1 m2 x : Nat) : Bool := allTo (allZ p m2 x) m1
def allX (p : Nat → Nat → Nat → Bool) (m0 m1 m2 : Nat) : Bool := allTo (allY p m1 m2) m0

theorem nums_row (w : World) (n : Nat) (f : Nat → Int) (t : TypeId) : Nums (w.alloc (.cells (rowOf n f).toArray t)) w.heap.size n f := by
  refine ⟨by simp, fun j hj => ⟨?_, World.frozen?_alloc_new _ _ _ _⟩⟩
  rw [World.cell?_alloc_new]
  simp [rowOf, hj]
def mostF (n i : Nat) (j : Nat) : Int := if j < i then n else 1
theorem nums_most (w : World) (n b : Nat) (t : TypeId) (hb : b = w.heap.size) : Nums (w.alloc (.cells #[.int .i64 1, .int .i64 1, .int .i64 1] t)) b 3 (mostF n 0) := by
  subst hb
  refine (Arr.newAt w 3 w.heap.size _ (.int .i64 1) t rfl rfl).congr fun j _ => ?_
  show Value.int .i64 1 = Value.int .i64 (mostF n 0 j)
  unfold mostF; rw [if_neg (by omega)]
theorem mostF_step (n i j : Nat) : mostF n (i + 1) j = if j = i then (n : Int) else mostF n i j := by
  unfold mostF
  by_cases h1 : j < i
  · rw [if_pos h1, if_pos (by omega)]; split <;> rfl
  · by_cases h2 : j = i
    · rw [if_pos h2, if_pos (by omega)]
    · rw [if_neg h1, if_neg h2, if_neg (by omega)]
def mostN (n many j : Nat) : Nat := if j < many then n else 1
theorem mostF_nat (n many j : Nat) : mostF n many j = (mostN n many j : Int) := by unfold mostF mostN; split <;> rfl
theorem mostN_le {n : Nat} (h : 1 ≤ n) (many j : Nat) : mostN n many j ≤ n := by unfold mostN; split <;> omega
/-- What stands while all are asked. -/
def AllRel (w wr : World) (n : Nat) (f : Nat → Int) (i : Nat) : Prop :=
  Nums wr w.heap.size 65 f ∧ Nums wr (w.heap.size + 1) 3 (mostF n i) ∧ Below w.heap.size w wr
theorem AllRel.below {w wr w' : World} {n : Nat} {f : Nat → Int} {i : Nat} (h : AllRel w wr n f i) (hb : Below wr.heap.size wr w') : AllRel w w' n f i :=
  ⟨Arr.below h.1 hb, Arr.below h.2.1 hb, h.2.2.trans (hb.mono h.2.2.size)⟩
theorem AllRel.most {w wr : World} {n : Nat} {f : Nat → Int} {i : Nat} (h : AllRel w wr n f i) {j : Nat} (hj : j < 3) : wr.cell? ⟨w.heap.size + 1, j, none⟩ = some (.int .i64 (mostN n i j : Nat)) := by
  rw [← mostF_nat]; exact Arr.cell h.2.1 hj

set_option maxHeartbeats 1000000 in
theorem all1_any (g : FuncId) (hg : ∀ (args : Array Value) (w : World), (callFunc g args).run Tryd.prog w = .ok (.enter g args) w) (q : Value) (n many : Nat) (hn : n ≤ 8) (hn1 : 1 ≤ n) (hm : many ≤ 3) (f : Nat → Int) (hf : f 0 = n) (p : Nat → Nat → Nat → Bool) (w : World)
    (hp : ∀ x y z w', x < n → y < n → z < n → Below w.heap.size w w' → Calls Tryd.prog g #[.int .i64 x, .int .i64 y, .int .i64 z, q] w' fun e w'' => e = .returned (.bool (p x y z)) ∧ Below w'.heap.size w' w'') :
    Calls Tryd.prog 46 #[.agg (rowOf 65 f).toArray, .func (.func g) #[] #[q], .int .i64 many] w fun e w' => e = .returned (.bool (allX p (mostN n many 0) (mostN n many 1) (mostN n many 2))) ∧ Below w.heap.size w w' := by
  have Hp := Lib.hid hp; clear hp
  have HR0 : Hid (AllRel w ((w.alloc (.cells (rowOf 65 f).toArray 58)).alloc (.cells #[.int .i64 1, .int .i64 1, .int .i64 1] 49)) n f 0) :=
    ⟨Arr.alloc (nums_row w 65 f _) _, nums_most _ n _ _ (by simp), belowTrans (below_box w _) (below_box _ _)⟩
  have Hf0 := Lib.hid hf; clear hf
  go_enter Tryd.func46, Tryd.ntmps46
  go_wp2_with fail
  go_loopw [14] (fun si wr => ∃ i : Nat, i ≤ many ∧ si = .int .i64 i ∧ AllRel w wr n f i) (fun si _ => many - (intOf si).toNat)
  case atStart => exact ⟨0, by omega, rfl, HR0.out⟩
  case round =>
    obtain ⟨i, hi, rfl, hr⟩ := hrel
    have HR := Lib.hid hr; clear hr HR0
    by_cases hlt : i < many
    · have c0 : wr.cell? ⟨w.heap.size, 0, none⟩ = some (.int .i64 n) := by
        have h := Arr.cell HR.out.1 (show 0 < 65 by omega)
        rw [h]; show some (Value.int .i64 (f 0)) = _; rw [Hf0.out]
      have i3 : i < 3 := by omega
      have i3' : (i : Int) < 3 := by omega
      have m1 : wr.cell? ⟨w.heap.size + 1, i, none⟩ = some (.int .i64 (mostF n i i)) := Arr.cell HR.out.2.1 i3
      have m2 : wr.frozen? ⟨w.heap.size + 1, i, none⟩ = false := Arr.free HR.out.2.1 i3
      have HN : Hid (AllRel w (wr.setCell ⟨w.heap.size + 1, i, none⟩ (.int .i64 n)) n f (i + 1)) := by
        refine ⟨Arr.setOther HR.out.1 (by simp) _, (Nums.set HR.out.2.1 i3 _).congr fun j _ => by rw [mostF_step], HR.out.2.2.setCell (Nat.le_succ _) _⟩
      go_wp2_with fail
      go_roundw
      case rel => exact ⟨i + 1, by omega, by go_num, HN.out⟩
      case measure => simp [intOf]; omega
    · obtain rfl : i = many := by omega
      have hm0 := mostN_le hn1 i 0
      have hm1 := mostN_le hn1 i 1
      have hm2 := mostN_le hn1 i 2
      obtain ⟨M0, hM0⟩ : ∃ M, M = mostN n i 0 := ⟨_, rfl⟩
      rw [← hM0] at hm0
      have c1 := HR.out.most (j := 0) (by omega)
      rw [← hM0] at c1
      have HM0 := Lib.hid hM0; clear hM0
      obtain ⟨M1, hM1⟩ : ∃ M, M = mostN n i 1 := ⟨_, rfl⟩
      rw [← hM1] at hm1
      have HM1 := Lib.hid hM1; clear hM1
      obtain ⟨M2, hM2⟩ : ∃ M, M = mostN n i 2 := ⟨_, rfl⟩
      rw [← hM2] at hm2
      have HM2 := Lib.hid hM2; clear hM2
      go_wp2_with fail
      clear c1
      go_loopw [24] (fun sx wr => ∃ x : Nat, x ≤ M0 ∧ sx = .int .i64 x ∧ allTo (allY p M1 M2) x = true ∧ AllRel w wr n f i) (fun sx _ => M0 - (intOf sx).toNat)
      case atStart => exact ⟨0, by omega, rfl, rfl, HR.out⟩
      case round =>
        clear HR
        obtain ⟨x, hx, rfl, ha, hr⟩ := hrel
        have HA := Lib.hid ha; have HR := Lib.hid hr; clear ha hr
        by_cases hlx : x < M0
        · have c2 := HR.out.most (j := 1) (by omega)
          rw [← HM1.out] at c2
          go_wp2_with fail
          clear c2
          go_loopw [29] (fun sy wr => ∃ y : Nat, y ≤ M1 ∧ sy = .int .i64 y ∧ allTo (allZ p M2 x) y = true ∧ AllRel w wr n f i) (fun sy _ => M1 - (intOf sy).toNat)
          case atStart => exact ⟨0, by omega, rfl, rfl, HR.out⟩
          case round =>
            clear HR
            obtain ⟨y, hy, rfl, ha, hr⟩ := hrel
            have HA1 := Lib.hid ha; have HR := Lib.hid hr; clear ha hr
            by_cases hly : y < M1
            · have c3 := HR.out.most (j := 2) (by omega)
              rw [← HM2.out] at c3
              go_wp2_with fail
              clear c3
              go_loopw [34] (fun sz wr => ∃ z : Nat, z ≤ M2 ∧ sz = .int .i64 z ∧ allTo (p x y) z = true ∧ AllRel w wr n f i) (fun sz _ => M2 - (intOf sz).toNat)
              case atStart => exact ⟨0, by omega, rfl, rfl, HR.out⟩
              case round =>
                clear HR
                obtain ⟨z, hz, rfl, ha, hr⟩ := hrel
                have HA2 := Lib.hid ha; have HR := Lib.hid hr; clear ha hr
                by_cases hlz : z < M2
                · cases ep : p x y z
                  all_goals
                    have Hep := Lib.hid ep; clear ep
                    go_wp2_with (refine (Hp.out x y z _ (by omega) (by omega) (by omega) HR.out.2.2).mono ?_; rw [Hep.out]; rintro e w' ⟨rfl, hb'⟩)
                    have HR' := Lib.hid (HR.out.below hb'); clear hb'
                  · go_ret
                    exact ⟨ret_bool (by rw [allX, ← HM0.out, ← HM1.out, ← HM2.out]; exact (allTo_hit hlx (show allY p M1 M2 x = false from allTo_hit hly (show allZ p M2 x y = false from allTo_hit hlz Hep.out))).symm), HR'.out.2.2⟩
                  · go_roundw
                    case rel => exact ⟨z + 1, by omega, by go_num, by rw [allTo, HA2.out, Hep.out]; rfl, HR'.out⟩
                    case measure => simp [intOf]; omega
                · obtain rfl : z = M2 := by omega
                  have He : Hid (allZ p z x y = true) := HA2.out
                  go_wp2_with fail
                  go_roundw
                  case rel => exact ⟨y + 1, by omega, by go_num, by rw [allTo, HA1.out, He.out]; rfl, HR.out⟩
                  case measure => simp [intOf]; omega
            · obtain rfl : y = M1 := by omega
              have He : Hid (allY p y M2 x = true) := HA1.out
              go_wp2_with fail
              go_roundw
              case rel => exact ⟨x + 1, by omega, by go_num, by rw [allTo, HA.out, He.out]; rfl, HR.out⟩
              case measure => simp [intOf]; omega
        · obtain rfl : x = M0 := by omega
          go_wp2_with fail
          go_ret
          exact ⟨ret_bool (by rw [allX, ← HM0.out, ← HM1.out, ← HM2.out]; exact HA.out.symm), HR.out.2.2⟩

set_option maxHeartbeats 1000000 in
theorem all2_any (g : FuncId) (hg : ∀ (args : Array Value) (w : World), (callFunc g args).run Tryd.prog w = .ok (.enter g args) w) (q r : Value) (n many : Nat) (hn : n ≤ 8) (hn1 : 1 ≤ n) (hm : many ≤ 3) (f : Nat → Int) (hf : f 0 = n) (p : Nat → Nat → Nat → Bool) (w : World)
    (hp : ∀ x y z w', x < n → y < n → z < n → Below w.heap.size w w' → Calls Tryd.prog g #[.int .i64 x, .int .i64 y, .int .i64 z, q, r] w' fun e w'' => e = .returned (.bool (p x y z)) ∧ Below w'.heap.size w' w'') :
    Calls Tryd.prog 46 #[.agg (rowOf 65 f).toArray, .func (.func g) #[] #[q, r], .int .i64 many] w fun e w' => e = .returned (.bool (allX p (mostN n many 0) (mostN n many 1) (mostN n many 2))) ∧ Below w.heap.size w w' := by
  have Hp := Lib.hid hp; clear hp
  have HR0 : Hid (AllRel w ((w.alloc (.cells (rowOf 65 f).toArray 58)).alloc (.cells #[.int .i64 1, .int .i64 1, .int .i64 1] 49)) n f 0) :=
    ⟨Arr.alloc (nums_row w 65 f _) _, nums_most _ n _ _ (by simp), belowTrans (below_box w _) (below_box _ _)⟩
  have Hf0 := Lib.hid hf; clear hf
  go_enter Tryd.func46, Tryd.ntmps46
  go_wp2_with fail
  go_loopw [14] (fun si wr => ∃ i : Nat, i ≤ many ∧ si = .int .i64 i ∧ AllRel w wr n f i) (fun si _ => many - (intOf si).toNat)
  case atStart => exact ⟨0, by omega, rfl, HR0.out⟩
  case round =>
    obtain ⟨i, hi, rfl, hr⟩ := hrel
    have HR := Lib.hid hr; clear hr HR0
    by_cases hlt : i < many
    · have c0 : wr.cell? ⟨w.heap.size, 0, none⟩ = some (.int .i64 n) := by
        have h := Arr.cell HR.out.1 (show 0 < 65 by omega)
        rw [h]; show some (Value.int .i64 (f 0)) = _; rw [Hf0.out]
      have i3 : i < 3 := by omega
      have i3' : (i : Int) < 3 := by omega
      have m1 : wr.cell? ⟨w.heap.size + 1, i, none⟩ = some (.int .i64 (mostF n i i)) := Arr.cell HR.out.2.1 i3
      have m2 : wr.frozen? ⟨w.heap.size + 1, i, none⟩ = false := Arr.free HR.out.2.1 i3
      have HN : Hid (AllRel w (wr.setCell ⟨w.heap.size + 1, i, none⟩ (.int .i64 n)) n f (i + 1)) := by
        refine ⟨Arr.setOther HR.out.1 (by simp) _, (Nums.set HR.out.2.1 i3 _).congr fun j _ => by rw [mostF_step], HR.out.2.2.setCell (Nat.le_succ _) _⟩
      go_wp2_with fail
      go_roundw
      case rel => exact ⟨i + 1, by omega, by go_num, HN.out⟩
      case measure => simp [intOf]; omega
    · obtain rfl : i = many := by omega
      have hm0 := mostN_le hn1 i 0
      have hm1 := mostN_le hn1 i 1
      have hm2 := mostN_le hn1 i 2
      obtain ⟨M0, hM0⟩ : ∃ M, M = mostN n i 0 := ⟨_, rfl⟩
      rw [← hM0] at hm0
      have c1 := HR.out.most (j := 0) (by omega)
      rw [← hM0] at c1
      have HM0 := Lib.hid hM0; clear hM0
      obtain ⟨M1, hM1⟩ : ∃ M, M = mostN n i 1 := ⟨_, rfl⟩
      rw [← hM1] at hm1
      have HM1 := Lib.hid hM1; clear hM1
      obtain ⟨M2, hM2⟩ : ∃ M, M = mostN n i 2 := ⟨_, rfl⟩
      rw [← hM2] at hm2
      have HM2 := Lib.hid hM2; clear hM2
      go_wp2_with fail
      clear c1
      go_loopw [24] (fun sx wr => ∃ x : Nat, x ≤ M0 ∧ sx = .int .i64 x ∧ allTo (allY p M1 M2) x = true ∧ AllRel w wr n f i) (fun sx _ => M0 - (intOf sx).toNat)
      case atStart => exact ⟨0, by omega, rfl, rfl, HR.out⟩
      case round =>
        clear HR
        obtain ⟨x, hx, rfl, ha, hr⟩ := hrel
        have HA := Lib.hid ha; have HR := Lib.hid hr; clear ha hr
        by_cases hlx : x < M0
        · have c2 := HR.out.most (j := 1) (by omega)
          rw [← HM1.out] at c2
          go_wp2_with fail
          clear c2
          go_loopw [29] (fun sy wr => ∃ y : Nat, y ≤ M1 ∧ sy = .int .i64 y ∧ allTo (allZ p M2 x) y = true ∧ AllRel w wr n f i) (fun sy _ => M1 - (intOf sy).toNat)
          case atStart => exact ⟨0, by omega, rfl, rfl, HR.out⟩
          case round =>
            clear HR
            obtain ⟨y, hy, rfl, ha, hr⟩ := hrel
            have HA1 := Lib.hid ha; have HR := Lib.hid hr; clear ha hr
            by_cases hly : y < M1
            · have c3 := HR.out.most (j := 2) (by omega)
              rw [← HM2.out] at c3
              go_wp2_with fail
              clear c3
              go_loopw [34] (fun sz wr => ∃ z : Nat, z ≤ M2 ∧ sz = .int .i64 z ∧ allTo (p x y) z = true ∧ AllRel w wr n f i) (fun sz _ => M2 - (intOf sz).toNat)
              case atStart => exact ⟨0, by omega, rfl, rfl, HR.out⟩
              case round =>
                clear HR
                obtain ⟨z, hz, rfl, ha, hr⟩ := hrel
                have HA2 := Lib.hid ha; have HR := Lib.hid hr; clear ha hr
                by_cases hlz : z < M2
                · cases ep : p x y z
                  all_goals
                    have Hep := Lib.hid ep; clear ep
                    go_wp2_with (refine (Hp.out x y z _ (by omega) (by omega) (by omega) HR.out.2.2).mono ?_; rw [Hep.out]; rintro e w' ⟨rfl, hb'⟩)
                    have HR' := Lib.hid (HR.out.below hb'); clear hb'
                  · go_ret
                    exact ⟨ret_bool (by rw [allX, ← HM0.out, ← HM1.out, ← HM2.out]; exact (allTo_hit hlx (show allY p M1 M2 x = false from allTo_hit hly (show allZ p M2 x y = false from allTo_hit hlz Hep.out))).symm), HR'.out.2.2⟩
                  · go_roundw
                    case rel => exact ⟨z + 1, by omega, by go_num, by rw [allTo, HA2.out, Hep.out]; rfl, HR'.out⟩
                    case measure => simp [intOf]; omega
                · obtain rfl : z = M2 := by omega
                  have He : Hid (allZ p z x y = true) := HA2.out
                  go_wp2_with fail
                  go_roundw
                  case rel => exact ⟨y + 1, by omega, by go_num, by rw [allTo, HA1.out, He.out]; rfl, HR.out⟩
                  case measure => simp [intOf]; omega
            · obtain rfl : y = M1 := by omega
              have He : Hid (allY p y M2 x = true) := HA1.out
              go_wp2_with fail
              go_roundw
              case rel => exact ⟨x + 1, by omega, by go_num, by rw [allTo, HA.out, He.out]; rfl, HR.out⟩
              case measure => simp [intOf]; omega
        · obtain rfl : x = M0 := by omega
          go_wp2_with fail
          go_ret
          exact ⟨ret_bool (by rw [allX, ← HM0.out, ← HM1.out, ← HM2.out]; exact HA.out.symm), HR.out.2.2⟩

end Go.Proofs.YtkmfhnjadpdkeaaDoor
