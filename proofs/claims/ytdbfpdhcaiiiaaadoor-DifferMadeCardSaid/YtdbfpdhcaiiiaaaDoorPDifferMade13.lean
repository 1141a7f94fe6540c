/-
  Contracts: field.isPrime, field.order. No condition but that the table of primes reads as it is laid.
-/
import Derived.Test.YtdbfpdhcaiiiaaaDoorPDifferMade11
import Derived.Test.YtdbfpdhcaiiiaaaDoorRows
import Derived.ChangeKeysEq
namespace Go.Proofs.YtdbfpdhcaiiiaaaDoor
open Go.RowKit

/-- The table of primes reads as it is laid. -/
def PrimesAt (w : World) : Prop := 0 < w.heap.size ∧ ∀ k, k < 18 → w.cell? ⟨0, k, none⟩ = some (.int .i64 (ix primesL k))
theorem PrimesAt.below {w w' : World} (h : PrimesAt w) (hb : Below w.heap.size w w') : PrimesAt w' :=
  ⟨Nat.lt_of_lt_of_le h.1 hb.size, fun k hk => by rw [hb.cell (p := ⟨0, k, none⟩) h.1]; exact h.2 k hk⟩
def primesC : Array Value := (rowOf 18 (ix primesL)).toArray
theorem loadCells_of {P : Program} {w : World} {b n : Nat} {f : Nat → Value} (hA : ∀ j, j < n → w.cell? ⟨b, j, none⟩ = some (f j)) :
    (loadCellsFrom ⟨b, 0, none⟩ 0 n #[]).run P w = .ok ((List.range n).map f).toArray w := by
  have := run_loadCells (P := P) w ⟨b, 0, none⟩ n f (fun j hj => by
    have hadd : (⟨b, 0, none⟩ : Addr).add j = ⟨b, j, none⟩ := by unfold Addr.add; split <;> simp_all
    rw [hadd]; exact hA j hj)
  simpa [loadCells] using this
theorem loadVar_of {P : Program} {w : World} {b n : Nat} {f : Nat → Value} (hA : ∀ j, j < n → w.cell? ⟨b, j, none⟩ = some (f j)) {ty : TypeId} {d : TypeDesc} (hu : P.underlying ty = some d)
    (hd : (match d with | .struct _ | .array _ _ => true | _ => false) = true) (hi : (P.info? ty).map (·.size) = some n) :
    (loadVar ty ⟨b, 0, none⟩).run P w = .ok (.agg ((List.range n).map f).toArray) w := by
  have hl := loadCells_of (P := P) hA
  cases hq : P.info? ty with
  | none => simp [hq] at hi
  | some i =>
    have hs : i.size = n := by simpa [hq] using hi
    have hagg : (isAgg ty).run P w = .ok true w := by
      unfold isAgg
      rw [Sem.run_bind, run_underlying hu w]
      cases d <;> simp_all
    simp [loadVar, Sem.run_bind, hagg, sizeOf, typeInfo, hq, hs, loadCells, hl]
theorem wp_load_of {P : Program} {o : Oper} {a : Act} {w : World} {K : Act → World → Prop} {Q : Exit → Act → World → Prop} (ty : TypeId) (x : Operand) (ho : o.op = .load ty x)
    (b : Nat) (hx : a.eval x = .pointer (some ⟨b, 0, none⟩)) {n : Nat} {f : Nat → Value} (hA : ∀ j, j < n → w.cell? ⟨b, j, none⟩ = some (f j)) {d : TypeDesc}
    (hu : P.underlying ty = some d) (hd : (match d with | .struct _ | .array _ _ => true | _ => false) = true) (hi : (P.info? ty).map (·.size) = some n)
    (h : K (a.put o.dst (.agg ((List.range n).map f).toArray)) w) : o.wp P a w K Q := by
  unfold Oper.wp execOp
  simp only [ho, hx, Instr.loadAt, Instr.sureAddr, Sem.run_bind, Sem.run_pure, Result.andThen_ok, loadVar_of hA hu hd hi]
  exact h
/-- A load of a block of numbers known one by one. -/
theorem wpList_load_of {P : Program} {ops : Array Oper} {rest : List Oper} {o : Oper} {a : Act} {w : World} {Q : Exit → Act → World → Prop} (hgd : o.guard = none) (ty : TypeId) (x : Operand) (ho : o.op = .load ty x)
    (b : Nat) (hx : a.eval x = .pointer (some ⟨b, 0, none⟩)) {n : Nat} {f : Nat → Int} (hA : ∀ j, j < n → w.cell? ⟨b, j, none⟩ = some (.int .i64 (f j))) {d : TypeDesc}
    (hu : P.underlying ty = some d) (hd : (match d with | .struct _ | .array _ _ => true | _ => false) = true) (hi : (P.info? ty).map (·.size) = some n)
    (V : Value) (hV : V = .agg (rowOf n f).toArray) (h : wpList P ops Q rest (a.put o.dst V) w) : wpList P ops Q (o :: rest) a w := by
  subst hV
  exact wpList_plain hgd fun _ hK => wp_load_of ty x ho b hx hA hu hd hi (hK _ _ h)
/-- The cell of an array by value. -/
theorem run_index_agg {P : Program} (t e : TypeId) (n : Nat) (d : TypeDesc) (f : Nat → Int) (k : Nat) (hk : k < n) (w : World) (h : P.underlying t = some (.array n e)) (he : P.underlying e = some d)
    (hd : (match d with | .struct _ | .array _ _ => true | _ => false) = false) (hs : (P.info? e).map (·.size) = some 1) :
    (Instr.index t (.agg (rowOf n f).toArray) (.int .i64 (k : Int))).run P w = .ok (.int .i64 (f k)) w := by
  have hagg : (isAgg e).run P w = .ok false w := by
    unfold isAgg
    rw [Sem.run_bind, run_underlying he w]
    cases d <;> simp_all
  have hz : (sizeOf e).run P w = .ok 1 w := by
    cases hq : P.info? e with
    | none => simp [hq] at hs
    | some i =>
      have hs' : i.size = 1 := by simpa [hq] using hs
      simp [sizeOf, typeInfo, hq, hs', Sem.run_bind]
  have hc : (rowOf n f)[k]? = some (.int .i64 (f k)) := by simp [rowOf, hk]
  simp [Instr.index, asIntOf, run_underlying h, Sem.run_bind, hz, part, hagg, hc, hk, Int.toNat_natCast]

theorem primesL_ix {p : Int} {k : Nat} (hk : k < 18) (e : (p == ix primesL k) = true) : isPB p = true := by
  have : p = ix primesL k := by simpa using e
  rw [this]
  have key : ∀ k, k < 18 → isPB (ix primesL k) = true := by decide +kernel
  exact key k hk
theorem primesL_no {p : Int} (h : ∀ k, k < 18 → (p == ix primesL k) = false) : isPB p = false := by
  cases e : isPB p
  · rfl
  · unfold isPB at e
    rw [List.contains_eq_mem, decide_eq_true_eq] at e
    obtain ⟨k, hk, rfl⟩ := List.getElem_of_mem e
    have := h k hk
    rw [ix_lt (show k < primesL.length from hk)] at this
    simp at this

set_option maxRecDepth 100000 in
set_option maxHeartbeats 1000000 in
theorem fprime_any (p : Int) (w : World) (hP : PrimesAt w) :
    Calls Tryd.prog 91 #[.int .i64 p] w fun e w' => e = .returned (.bool (isPB p)) ∧ w = w' := by
  have HP := Lib.hid hP.2
  clear hP
  obtain ⟨V, hV⟩ : ∃ V, V = Value.agg (rowOf 18 (ix primesL)).toArray := ⟨_, rfl⟩
  have HV := Lib.hid hV
  clear hV
  go_enter Tryd.func91, Tryd.ntmps91
  go_wp2_with (with_reducible refine wpList_load_of rfl 119 (.global 0) rfl 0 (by kernel_rfl) HP.out Tryd.underlying119 rfl (by kernel_rfl) V HV.out ?_)
  go_loop [6] (fun s => ∃ k : Nat, k ≤ 18 ∧ s = .int .i64 k ∧ ∀ j, j < k → (p == ix primesL j) = false) (fun s => 18 - (intOf s).toNat)
  case atStart => exact ⟨0, by omega, rfl, fun j h => by omega⟩
  case round =>
    obtain ⟨k, hk, rfl, hn⟩ := hrel
    have HN := Lib.hid hn; clear hn
    by_cases hlt : k < 18
    · have hix : ∀ w, (Instr.index 119 V (.int .i64 (k : Int))).run Tryd.prog w = .ok (.int .i64 (ix primesL k)) w := fun w => by
        rw [HV.out]; exact run_index_agg 119 3 18 _ _ k hlt w Tryd.underlying119 Tryd.underlying3 rfl (by kernel_rfl)
      cases e : (p == ix primesL k)
      · have He := Lib.hid e
        go_wp2_with fail
        go_round
        case rel => exact ⟨k + 1, by omega, by go_num, fun j hj => by
          by_cases ej : j = k
          · subst ej; exact He.out
          · exact HN.out j (by omega)⟩
        case measure => simp [intOf]; omega
      · have He := Lib.hid (primesL_ix hlt e)
        go_wp2_with fail
        go_ret
        exact ⟨ret_bool He.out.symm, rfl⟩
    · obtain rfl : k = 18 := by omega
      go_wp2_with fail
      go_ret
      exact ⟨ret_bool (primesL_no HN.out).symm, rfl⟩

theorem isAgg_no {P : Program} {e : TypeId} {d : TypeDesc} (he : P.underlying e = some d) (hd : (match d with | .struct _ | .array _ _ => true | _ => false) = false) (w : World) : (isAgg e).run P w = .ok false w := by
  unfold isAgg
  rw [Sem.run_bind, run_underlying he w]
  cases d <;> simp_all
theorem part_row {P : Program} {e : TypeId} (he : P.underlying e = some (.int .i64)) (n : Nat) (f : Nat → Int) {i : Nat} (hi : i < n) (w : World) : (part e (rowOf n f).toArray i).run P w = .ok (.int .i64 (f i)) w := by
  have hc : (rowOf n f)[i]? = some (.int .i64 (f i)) := by simp [rowOf, hi]
  simp [part, Sem.run_bind, isAgg_no he rfl, hc]
theorem eqItems_row {P : Program} {e : TypeId} (he : P.underlying e = some (.int .i64)) (n d : Nat) (f g : Nat → Int) (w : World) : ∀ is : List Nat, (∀ i ∈ is, i < n) →
    (Op.eqItems (d + 1) e 1 (rowOf n f).toArray (rowOf n g).toArray is).run P w = .ok (is.all fun j => f j == g j) w
  | [], _ => by simp [Op.eqItems]
  | i :: is, h => by
    have hi := h i (by simp)
    have ih := eqItems_row he n d f g w is (fun j hj => h j (by simp [hj]))
    simp only [Op.eqItems, Sem.run_bind, Nat.mul_one, part_row he n f hi, part_row he n g hi, Result.andThen_ok, run_equalIn_int w d e .i64 .i64 (f i) (g i) he, List.all_cons]
    cases e1 : (f i == g i)
    · simp
    · simpa using ih
theorem equal_row {P : Program} {t e : TypeId} {n d : Nat} {i : TypeInfo} (hu : P.underlying t = some (.array n e)) (he : P.underlying e = some (.int .i64)) (hi : P.info? e = some i) (hc : P.cellsOf e = 1) (f g : Nat → Int) (w : World) :
    (Op.equalIn (d + 2) t (.agg (rowOf n f).toArray) (.agg (rowOf n g).toArray)).run P w = .ok ((List.range n).all fun j => f j == g j) w := by
  rw [run_equalIn_array (P := P) w (d + 1) _ _ hu hi, hc]
  exact eqItems_row he n d f g w _ (fun j hj => List.mem_range.1 hj)

/-- What order answers. -/
def OrdPost (p d : Int) (w : World) (e : Ending) (w' : World) : Prop := e = .returned (.tuple #[.int .i64 (ordQ p d : Nat), .bool (ordQ p d != 0)]) ∧ w = w'
theorem ordQ_no {p d : Int} (h : ¬ (isPB p = true ∧ 1 ≤ d ∧ d ≤ 6)) : ordQ p d = 0 := by
  unfold ordQ; rw [if_neg (fun hc => h ⟨hc.1, hc.2.1, hc.2.2.1⟩)]
theorem ordQ_far {p d : Nat} {i : Nat} (hi : i ≤ d) (h : 64 < p ^ i) (hp : 1 ≤ p) : ordQ p d = 0 := by
  unfold ordQ
  rw [if_neg]
  rintro ⟨_, _, _, h4⟩
  rw [Int.toNat_natCast, Int.toNat_natCast] at h4
  have := Nat.pow_le_pow_right hp hi
  omega
theorem ordQ_yes {p d : Nat} (h1 : isPB p = true) (h2 : 1 ≤ d) (h3 : d ≤ 6) (h : p ^ d ≤ 64) : ordQ p d = p ^ d := by
  unfold ordQ
  rw [if_pos ⟨h1, by omega, by omega, by simpa using h⟩]; simp
theorem ord_ret {p d : Int} {w : World} {n : Nat} {b : Bool} (h : ordQ p d = n) (hb : (n != 0) = b) : OrdPost p d w (.returned (.tuple #[.int .i64 (n : Int), .bool b])) w := by
  refine ⟨?_, rfl⟩; rw [h, hb]

set_option maxRecDepth 100000 in
set_option maxHeartbeats 1000000 in
theorem order_any (p d : Int) (w : World) (hP : PrimesAt w) :
    Calls Tryd.prog 83 #[.int .i64 p, .int .i64 d] w (OrdPost p d w) := by
  have HF := Lib.hid (fprime_any p w hP)
  clear hP
  cases e1 : isPB p
  · have H0 := Lib.hid (ordQ_no (p := p) (d := d) (by rw [e1]; simp))
    rw [e1] at HF
    clear e1
    go_enter Tryd.func83, Tryd.ntmps83
    go_wp2_with (go_at_call 91; refine (HF.out).mono ?_; rintro e w' ⟨rfl, rfl⟩)
    go_ret2
    exact ord_ret H0.out rfl
  · have HPr := Lib.hid e1
    rw [e1] at HF
    clear e1
    by_cases h2 : d < 1
    · have H0 := Lib.hid (ordQ_no (p := p) (d := d) (by omega))
      have ed : decide (d < 1) = true := by simpa using h2
      clear h2
      go_enter Tryd.func83, Tryd.ntmps83
      go_wp2_with (go_at_call 91; refine (HF.out).mono ?_; rintro e w' ⟨rfl, rfl⟩)
      go_ret2
      exact ord_ret H0.out rfl
    · have ed : decide (d < 1) = false := by simpa using h2
      by_cases h3 : 6 < d
      · have H0 := Lib.hid (ordQ_no (p := p) (d := d) (by omega))
        have ed2 : decide (6 < d) = true := by simpa using h3
        clear h2 h3
        go_enter Tryd.func83, Tryd.ntmps83
        go_wp2_with (go_at_call 91; refine (HF.out).mono ?_; rintro e w' ⟨rfl, rfl⟩)
        go_ret2
        exact ord_ret H0.out rfl
      · have ed2 : decide (6 < d) = false := by simpa using h3
        obtain ⟨p, rfl⟩ := Int.eq_ofNat_of_zero_le (show 0 ≤ p by have := (isPB_range HPr.out).1; omega)
        obtain ⟨d, rfl⟩ := Int.eq_ofNat_of_zero_le (show 0 ≤ d by omega)
        have hp2 : 2 ≤ p := by have := (isPB_range HPr.out).1; omega
        have hp61 : p ≤ 61 := by have := (isPB_range HPr.out).2; omega
        have hd6 : d ≤ 6 := by omega
        have hd1 : 1 ≤ d := by omega
        clear h2 h3
        go_enter Tryd.func83, Tryd.ntmps83
        go_wp2_with (go_at_call 91; refine (HF.out).mono ?_; rintro e w' ⟨rfl, rfl⟩)
        clear ed ed2
        go_loop [6, 19] (fun s i => ∃ k q : Nat, k ≤ d ∧ i = .int .i64 k ∧ s = .int .i64 q ∧ q = p ^ k ∧ q ≤ 64) (fun _ i => d - (intOf i).toNat)
        case atStart => exact ⟨0, 1, by omega, rfl, rfl, by simp, by omega⟩
        case round =>
          obtain ⟨k, q, hk, rfl, rfl, hq, hq64⟩ := hrel
          have HQ := Lib.hid hq; clear hq
          have hm : q * p ≤ 64 * 61 := Nat.mul_le_mul hq64 hp61
          have hv := mul_val (q := q) (p := p) (by omega)
          have HN : Hid (q * p = p ^ (k + 1)) := by show _ = _; rw [Nat.pow_succ, HQ.out]
          obtain ⟨m, hm2⟩ : ∃ m, m = q * p := ⟨_, rfl⟩
          rw [← hm2] at hv hm HN
          clear hm2
          by_cases hlt : k < d
          · by_cases hb : 64 < m
            · have H0 := Lib.hid (ordQ_far (p := p) (d := d) (i := k + 1) (by omega) (by rw [← HN.out]; exact hb) (by omega))
              go_wp2_with fail
              go_ret2
              exact ord_ret H0.out rfl
            · go_wp2_with fail
              go_round
              case rel => exact ⟨k + 1, m, by omega, by go_num, by first | rfl | exact hv, HN.out, by omega⟩
              case measure => simp [intOf]; omega
          · obtain rfl : k = d := by omega
            have H0 := Lib.hid (ordQ_yes HPr.out hd1 hd6 (by rw [← HQ.out]; exact hq64))
            have hq1 : (q != 0) = true := by
              have := pow_one_le (p := p) (by omega) k
              have := HQ.out
              simp; omega
            go_wp2_with fail
            go_ret2
            exact ord_ret (H0.out.trans HQ.out.symm) hq1
end Go.Proofs.YtdbfpdhcaiiiaaaDoor
