/-
  Contract: the reference's IsPrime, of any number. No condition.
  Contracts: field.isPrime, field.order. No condition but that the table of primes reads as it is laid.
  Contracts: the reference's OrderOf, Digits, Number. No condition.
  Contract: slices.Clone over ints, of a slice that holds some; append of a whole slice to an empty one. No condition.
-/
import Derived.Test.YtdbfpdhcaiiiaaaDoorPDifferMakes1
import Derived.Test.YtdbfpdhcaiiiaaaDoorPDifferMakes7
import Derived.Test.YtdbfpdhcaiiiaaaDoorRows
import Derived.ChangeKeysEq
namespace Go.Proofs.YtdbfpdhcaiiiaaaDoor
open Go.RowKit

/-- Is a number one that IsPrime passes? -/
def prB (n : Nat) : Bool := decide (2 ≤ n ∧ n ≤ 100000) && decide (∀ d, d < n → 2 ≤ d → d * d ≤ n → n % d ≠ 0)
def prI (n : Int) : Bool := prB n.toNat
theorem prB_far {n : Nat} (h : ¬ (2 ≤ n ∧ n ≤ 100000)) : prB n = false := by unfold prB; rw [decide_eq_false h]; rfl
theorem prB_hit {n q : Nat} (h2 : 2 ≤ q) (hq : q * q ≤ n) (h : n % q = 0) : prB n = false := by
  unfold prB
  have h4 : q * 2 ≤ q * q := Nat.mul_le_mul (Nat.le_refl q) h2
  rw [decide_eq_false (p := ∀ d, d < n → 2 ≤ d → d * d ≤ n → n % d ≠ 0) (fun hc => hc q (by omega) h2 hq h), Bool.and_false]
theorem prB_yes {n q : Nat} (h1 : 2 ≤ n ∧ n ≤ 100000) (hq : n < q * q) (h : ∀ d, 2 ≤ d → d < q → n % d ≠ 0) : prB n = true := by
  unfold prB
  rw [decide_eq_true h1, decide_eq_true (p := ∀ d, d < n → 2 ≤ d → d * d ≤ n → n % d ≠ 0)]
  · rfl
  · intro d _ hd hdd
    refine h d hd ?_
    refine Classical.byContradiction fun hc => ?_
    have := Nat.mul_le_mul (show q ≤ d by omega) (show q ≤ d by omega)
    omega
theorem sq_up {q n : Nat} (h : q * q ≤ n) (hn : n ≤ 100000) : q ≤ 316 := by
  refine Classical.byContradiction fun hc => ?_
  have := Nat.mul_le_mul (show 317 ≤ q by omega) (show 317 ≤ q by omega)
  omega
theorem sqr_val {q : Nat} (h : q ≤ 317) : Value.int .i64 (wrap64 ((q : Int) * (q : Int))) = Value.int .i64 ((q * q : Nat) : Int) ∧ q * q ≤ 100489 := by
  have h : q * q ≤ 317 * 317 := Nat.mul_le_mul h h
  refine ⟨?_, by omega⟩
  rw [← Int.natCast_mul, IntWalk.wrap64_in _ (by omega)]

set_option maxHeartbeats 1000000 in
theorem primeX_any (n : Int) (w : World) :
    Calls Tryd.prog 45 #[.int .i64 n] w fun e w' => e = .returned (.bool (prI n)) ∧ w = w' := by
  by_cases h2 : n < 2
  · have e1 : decide (n < 2) = true := by simpa using h2
    have HP : Hid (prI n = false) := prB_far (by omega)
    clear h2
    go_enter Tryd.func45, Tryd.ntmps45
    go_wp2
    go_ret
    exact ⟨ret_bool HP.out.symm, rfl⟩
  · by_cases h3 : 100000 < n
    · have e1 : decide (n < 2) = false := by simpa using h2
      have e2 : decide (100000 < n) = true := by simpa using h3
      have HP : Hid (prI n = false) := prB_far (by omega)
      clear h2 h3
      go_enter Tryd.func45, Tryd.ntmps45
      go_wp2
      go_ret
      exact ⟨ret_bool HP.out.symm, rfl⟩
    · obtain ⟨n, rfl⟩ := Int.eq_ofNat_of_zero_le (show 0 ≤ n by omega)
      have HN : Hid (2 ≤ n ∧ n ≤ 100000) := ⟨by omega, by omega⟩
      have e1 : decide ((n : Int) < 2) = false := by simpa using h2
      have e2 : decide (100000 < (n : Int)) = false := by simpa using h3
      have hn2 : (n : Int) ≤ 100000 := by omega
      show Calls Tryd.prog 45 #[.int .i64 (n : Int)] w fun e w' => e = .returned (.bool (prB n)) ∧ w = w'
      clear h3
      go_enter Tryd.func45, Tryd.ntmps45
      go_wp2
      clear e1 e2
      go_loop [3] (fun s => ∃ q : Nat, 2 ≤ q ∧ q ≤ 317 ∧ s = .int .i64 q ∧ ∀ d, 2 ≤ d → d < q → n % d ≠ 0) (fun s => 320 - (intOf s).toNat)
      case atStart => exact ⟨2, by omega, by omega, rfl, fun d h1 h2 => by omega⟩
      case round =>
        obtain ⟨q, hq1, hq2, rfl, hno⟩ := hrel
        have HNo := Lib.hid hno
        clear hno
        obtain ⟨hv, hqb⟩ := sqr_val (q := q) (by omega)
        have hq0 : ¬ q = 0 := by omega
        have H1 : Hid (n < q * q → prB n = true) := fun h => prB_yes HN.out h HNo.out
        have H2 : Hid (q * q ≤ n → n % q = 0 → prB n = false) := fun h h' => prB_hit hq1 h h'
        have H3 : Hid (q * q ≤ n → q ≤ 316) := fun h => sq_up h HN.out.2
        obtain ⟨P, hP⟩ : ∃ P, P = q * q := ⟨_, rfl⟩
        rw [← hP] at hv hqb H1 H2 H3
        clear hP
        by_cases hle : P ≤ n
        · have h316 := H3.out hle
          by_cases hd : n % q = 0
          · have HF := Lib.hid (H2.out hle hd)
            have e1 : (((n : Nat) : Int) % ((q : Nat) : Int) == 0) = true := by simp; omega
            clear hd
            go_wp2
            go_ret
            exact ⟨ret_bool HF.out.symm, rfl⟩
          · have e1 : (((n : Nat) : Int) % ((q : Nat) : Int) == 0) = false := by simp; omega
            have HD := Lib.hid hd
            clear hd
            go_wp2
            go_round
            case rel => exact ⟨q + 1, by omega, by omega, by go_num, fun d h1 h2 => by
              by_cases e : d = q
              · subst e; exact HD.out
              · exact HNo.out d h1 (by omega)⟩
            case measure => simp [intOf]; omega
        · have HR := Lib.hid (H1.out (by omega))
          go_wp2
          go_ret
          exact ⟨ret_bool HR.out.symm, rfl⟩
end Go.Proofs.YtdbfpdhcaiiiaaaDoor

namespace Go.Proofs.YtdbfpdhcaiiiaaaDoor
open Go.RowKit

/-- The table of primes reads as it is laid. -/
def PrimesAt (w : World) : Prop := 0 < w.heap.size ∧ ∀ k, k < 18 → w.cell? ⟨0, k, none⟩ = some (.int .i64 (ix primesL k))
theorem PrimesAt.below {w w' : World} (h : PrimesAt w) (hb : Below w.heap.size w w') : PrimesAt w' :=
  ⟨Nat.lt_of_lt_of_le h.1 hb.size, fun k hk => by rw [hb.cell (p := ⟨0, k, none⟩) h.1]; exact h.2 k hk⟩
def primesC : Array Value := (rowOf 18 (ix primesL)).toArray
theorem loadCells_of {P : Program} {w : World} {b n : Nat} {f : Nat → Value} (hA : ∀ j, j < n → w.cell? ⟨b, j, none⟩ = some (f j)) :
    (loadCellsFrom ⟨b, 0, none⟩ 0 n #[]).run P w = .ok ((List.range n).map f).toArray w := by
  have := run_loadCells (P := P) w ⟨b, 0, none⟩ n f (fun j hj => by
    have hadd : (⟨b, 0, none⟩ : Addr).add j = ⟨b, j, none⟩ := by unfold Addr.add; split <;> simp_all
    rw [hadd]; exact hA j hj)
  simpa [loadCells] using this
theorem loadVar_of {P : Program} {w : World} {b n : Nat} {f : Nat → Value} (hA : ∀ j, j < n → w.cell? ⟨b, j, none⟩ = some (f j)) {ty : TypeId} {d : TypeDesc} (hu : P.underlying ty = some d)
    (hd : (match d with | .struct _ | .array _ _ => true | _ => false) = true) (hi : (P.info? ty).map (·.size) = some n) :
    (loadVar ty ⟨b, 0, none⟩).run P w = .ok (.agg ((List.range n).map f).toArray) w := by
  have hl := loadCells_of (P := P) hA
  cases hq : P.info? ty with
  | none => simp [hq] at hi
  | some i =>
    have hs : i.size = n := by simpa [hq] using hi
    have hagg : (isAgg ty).run P w = .ok true w := by
      unfold isAgg
      rw [Sem.run_bind, run_underlying hu w]
      cases d <;> simp_all
    simp [loadVar, Sem.run_bind, hagg, sizeOf, typeInfo, hq, hs, loadCells, hl]
theorem wp_load_of {P : Program} {o : Oper} {a : Act} {w : World} {K : Act → World → Prop} {Q : Exit → Act → World → Prop} (ty : TypeId) (x : Operand) (ho : o.op = .load ty x)
    (b : Nat) (hx : a.eval x = .pointer (some ⟨b, 0, none⟩)) {n : Nat} {f : Nat → Value} (hA : ∀ j, j < n → w.cell? ⟨b, j, none⟩ = some (f j)) {d : TypeDesc}
    (hu : P.underlying ty = some d) (hd : (match d with | .struct _ | .array _ _ => true | _ => false) = true) (hi : (P.info? ty).map (·.size) = some n)
    (h : K (a.put o.dst (.agg ((List.range n).map f).toArray)) w) : o.wp P a w K Q := by
  unfold Oper.wp execOp
  simp only [ho, hx, Instr.loadAt, Instr.sureAddr, Sem.run_bind, Sem.run_pure, Result.andThen_ok, loadVar_of hA hu hd hi]
  exact h
/-- A load of a block of numbers known one by one. -/
theorem wpList_load_of {P : Program} {ops : Array Oper} {rest : List Oper} {o : Oper} {a : Act} {w : World} {Q : Exit → Act → World → Prop} (hgd : o.guard = none) (ty : TypeId) (x : Operand) (ho : o.op = .load ty x)
    (b : Nat) (hx : a.eval x = .pointer (some ⟨b, 0, none⟩)) {n : Nat} {f : Nat → Int} (hA : ∀ j, j < n → w.cell? ⟨b, j, none⟩ = some (.int .i64 (f j))) {d : TypeDesc}
    (hu : P.underlying ty = some d) (hd : (match d with | .struct _ | .array _ _ => true | _ => false) = true) (hi : (P.info? ty).map (·.size) = some n)
    (V : Value) (hV : V = .agg (rowOf n f).toArray) (h : wpList P ops Q rest (a.put o.dst V) w) : wpList P ops Q (o :: rest) a w := by
  subst hV
  exact wpList_plain hgd fun _ hK => wp_load_of ty x ho b hx hA hu hd hi (hK _ _ h)
/-- The cell of an array by value. -/
theorem run_index_agg {P : Program} (t e : TypeId) (n : Nat) (d : TypeDesc) (f : Nat → Int) (k : Nat) (hk : k < n) (w : World) (h : P.underlying t = some (.array n e)) (he : P.underlying e = some d)
    (hd : (match d with | .struct _ | .array _ _ => true | _ => false) = false) (hs : (P.info? e).map (·.size) = some 1) :
    (Instr.index t (.agg (rowOf n f).toArray) (.int .i64 (k : Int))).run P w = .ok (.int .i64 (f k)) w := by
  have hagg : (isAgg e).run P w = .ok false w := by
    unfold isAgg
    rw [Sem.run_bind, run_underlying he w]
    cases d <;> simp_all
  have hz : (sizeOf e).run P w = .ok 1 w := by
    cases hq : P.info? e with
    | none => simp [hq] at hs
    | some i =>
      have hs' : i.size = 1 := by simpa [hq] using hs
      simp [sizeOf, typeInfo, hq, hs', Sem.run_bind]
  have hc : (rowOf n f)[k]? = some (.int .i64 (f k)) := by simp [rowOf, hk]
  simp [Instr.index, asIntOf, run_underlying h, Sem.run_bind, hz, part, hagg, hc, hk, Int.toNat_natCast]

theorem primesL_ix {p : Int} {k : Nat} (hk : k < 18) (e : (p == ix primesL k) = true) : isPB p = true := by
  have : p = ix primesL k := by simpa using e
  rw [this]
  have key : ∀ k, k < 18 → isPB (ix primesL k) = true := by decide +kernel
  exact key k hk
theorem primesL_no {p : Int} (h : ∀ k, k < 18 → (p == ix primesL k) = false) : isPB p = false := by
  cases e : isPB p
  · rfl
  · unfold isPB at e
    rw [List.contains_eq_mem, decide_eq_true_eq] at e
    obtain ⟨k, hk, rfl⟩ := List.getElem_of_mem e
    have := h k hk
    rw [ix_lt (show k < primesL.length from hk)] at this
    simp at this

set_option maxRecDepth 100000 in
set_option maxHeartbeats 1000000 in
theorem fprime_any (p : Int) (w : World) (hP : PrimesAt w) :
    Calls Tryd.prog 91 #[.int .i64 p] w fun e w' => e = .returned (.bool (isPB p)) ∧ w = w' := by
  have HP := Lib.hid hP.2
  clear hP
  obtain ⟨V, hV⟩ : ∃ V, V = Value.agg (rowOf 18 (ix primesL)).toArray := ⟨_, rfl⟩
  have HV := Lib.hid hV
  clear hV
  go_enter Tryd.func91, Tryd.ntmps91
  go_wp2_with (with_reducible refine wpList_load_of rfl 119 (.global 0) rfl 0 (by kernel_rfl) HP.out Tryd.underlying119 rfl (by kernel_rfl) V HV.out ?_)
  go_loop [6] (fun s => ∃ k : Nat, k ≤ 18 ∧ s = .int .i64 k ∧ ∀ j, j < k → (p == ix primesL j) = false) (fun s => 18 - (intOf s).toNat)
  case atStart => exact ⟨0, by omega, rfl, fun j h => by omega⟩
  case round =>
    obtain ⟨k, hk, rfl, hn⟩ := hrel
    have HN := Lib.hid hn; clear hn
    by_cases hlt : k < 18
    · have hix : ∀ w, (Instr.index 119 V (.int .i64 (k : Int))).run Tryd.prog w = .ok (.int .i64 (ix primesL k)) w := fun w => by
        rw [HV.out]; exact run_index_agg 119 3 18 _ _ k hlt w Tryd.underlying119 Tryd.underlying3 rfl (by kernel_rfl)
      cases e : (p == ix primesL k)
      · have He := Lib.hid e
        go_wp2_with fail
        go_round
        case rel => exact ⟨k + 1, by omega, by go_num, fun j hj => by
          by_cases ej : j = k
          · subst ej; exact He.out
          · exact HN.out j (by omega)⟩
        case measure => simp [intOf]; omega
      · have He := Lib.hid (primesL_ix hlt e)
        go_wp2_with fail
        go_ret
        exact ⟨ret_bool He.out.symm, rfl⟩
    · obtain rfl : k = 18 := by omega
      go_wp2_with fail
      go_ret
      exact ⟨ret_bool (primesL_no HN.out).symm, rfl⟩

theorem isAgg_no {P : Program} {e : TypeId} {d : TypeDesc} (he : P.underlying e = some d) (hd : (match d with | .struct _ | .array _ _ => true | _ => false) = false) (w : World) : (isAgg e).run P w = .ok false w := by
  unfold isAgg
  rw [Sem.run_bind, run_underlying he w]
  cases d <;> simp_all
theorem part_row {P : Program} {e : TypeId} (he : P.underlying e = some (.int .i64)) (n : Nat) (f : Nat → Int) {i : Nat} (hi : i < n) (w : World) : (part e (rowOf n f).toArray i).run P w = .ok (.int .i64 (f i)) w := by
  have hc : (rowOf n f)[i]? = some (.int .i64 (f i)) := by simp [rowOf, hi]
  simp [part, Sem.run_bind, isAgg_no he rfl, hc]
theorem eqItems_row {P : Program} {e : TypeId} (he : P.underlying e = some (.int .i64)) (n d : Nat) (f g : Nat → Int) (w : World) : ∀ is : List Nat, (∀ i ∈ is, i < n) →
    (Op.eqItems (d + 1) e 1 (rowOf n f).toArray (rowOf n g).toArray is).run P w = .ok (is.all fun j => f j == g j) w
  | [], _ => by simp [Op.eqItems]
  | i :: is, h => by
    have hi := h i (by simp)
    have ih := eqItems_row he n d f g w is (fun j hj => h j (by simp [hj]))
    simp only [Op.eqItems, Sem.run_bind, Nat.mul_one, part_row he n f hi, part_row he n g hi, Result.andThen_ok, run_equalIn_int w d e .i64 .i64 (f i) (g i) he, List.all_cons]
    cases e1 : (f i == g i)
    · simp
    · simpa using ih
theorem equal_row {P : Program} {t e : TypeId} {n d : Nat} {i : TypeInfo} (hu : P.underlying t = some (.array n e)) (he : P.underlying e = some (.int .i64)) (hi : P.info? e = some i) (hc : P.cellsOf e = 1) (f g : Nat → Int) (w : World) :
    (Op.equalIn (d + 2) t (.agg (rowOf n f).toArray) (.agg (rowOf n g).toArray)).run P w = .ok ((List.range n).all fun j => f j == g j) w := by
  rw [run_equalIn_array (P := P) w (d + 1) _ _ hu hi, hc]
  exact eqItems_row he n d f g w _ (fun j hj => List.mem_range.1 hj)

/-- What order answers. -/
def OrdPost (p d : Int) (w : World) (e : Ending) (w' : World) : Prop := e = .returned (.tuple #[.int .i64 (ordQ p d : Nat), .bool (ordQ p d != 0)]) ∧ w = w'
theorem ordQ_no {p d : Int} (h : ¬ (isPB p = true ∧ 1 ≤ d ∧ d ≤ 6)) : ordQ p d = 0 := by
  unfold ordQ; rw [if_neg (fun hc => h ⟨hc.1, hc.2.1, hc.2.2.1⟩)]
theorem ordQ_far {p d : Nat} {i : Nat} (hi : i ≤ d) (h : 64 < p ^ i) (hp : 1 ≤ p) : ordQ p d = 0 := by
  unfold ordQ
  rw [if_neg]
  rintro ⟨_, _, _, h4⟩
  rw [Int.toNat_natCast, Int.toNat_natCast] at h4
  have := Nat.pow_le_pow_right hp hi
  omega
theorem ordQ_yes {p d : Nat} (h1 : isPB p = true) (h2 : 1 ≤ d) (h3 : d ≤ 6) (h : p ^ d ≤ 64) : ordQ p d = p ^ d := by
  unfold ordQ
  rw [if_pos ⟨h1, by omega, by omega, by simpa using h⟩]; simp
theorem ord_ret {p d : Int} {w : World} {n : Nat} {b : Bool} (h : ordQ p d = n) (hb : (n != 0) = b) : OrdPost p d w (.returned (.tuple #[.int .i64 (n : Int), .bool b])) w := by
  refine ⟨?_, rfl⟩; rw [h, hb]

set_option maxRecDepth 100000 in
set_option maxHeartbeats 1000000 in
theorem order_any (p d : Int) (w : World) (hP : PrimesAt w) :
    Calls Tryd.prog 83 #[.int .i64 p, .int .i64 d] w (OrdPost p d w) := by
  have HF := Lib.hid (fprime_any p w hP)
  clear hP
  cases e1 : isPB p
  · have H0 := Lib.hid (ordQ_no (p := p) (d := d) (by rw [e1]; simp))
    rw [e1] at HF
    clear e1
    go_enter Tryd.func83, Tryd.ntmps83
    go_wp2_with (go_at_call 91; refine (HF.out).mono ?_; rintro e w' ⟨rfl, rfl⟩)
    go_ret2
    exact ord_ret H0.out rfl
  · have HPr := Lib.hid e1
    rw [e1] at HF
    clear e1
    by_cases h2 : d < 1
    · have H0 := Lib.hid (ordQ_no (p := p) (d := d) (by omega))
      have ed : decide (d < 1) = true := by simpa using h2
      clear h2
      go_enter Tryd.func83, Tryd.ntmps83
      go_wp2_with (go_at_call 91; refine (HF.out).mono ?_; rintro e w' ⟨rfl, rfl⟩)
      go_ret2
      exact ord_ret H0.out rfl
    · have ed : decide (d < 1) = false := by simpa using h2
      by_cases h3 : 6 < d
      · have H0 := Lib.hid (ordQ_no (p := p) (d := d) (by omega))
        have ed2 : decide (6 < d) = true := by simpa using h3
        clear h2 h3
        go_enter Tryd.func83, Tryd.ntmps83
        go_wp2_with (go_at_call 91; refine (HF.out).mono ?_; rintro e w' ⟨rfl, rfl⟩)
        go_ret2
        exact ord_ret H0.out rfl
      · have ed2 : decide (6 < d) = false := by simpa using h3
        obtain ⟨p, rfl⟩ := Int.eq_ofNat_of_zero_le (show 0 ≤ p by have := (isPB_range HPr.out).1; omega)
        obtain ⟨d, rfl⟩ := Int.eq_ofNat_of_zero_le (show 0 ≤ d by omega)
        have hp2 : 2 ≤ p := by have := (isPB_range HPr.out).1; omega
        have hp61 : p ≤ 61 := by have := (isPB_range HPr.out).2; omega
        have hd6 : d ≤ 6 := by omega
        have hd1 : 1 ≤ d := by omega
        clear h2 h3
        go_enter Tryd.func83, Tryd.ntmps83
        go_wp2_with (go_at_call 91; refine (HF.out).mono ?_; rintro e w' ⟨rfl, rfl⟩)
        clear ed ed2
        go_loop [6, 19] (fun s i => ∃ k q : Nat, k ≤ d ∧ i = .int .i64 k ∧ s = .int .i64 q ∧ q = p ^ k ∧ q ≤ 64) (fun _ i => d - (intOf i).toNat)
        case atStart => exact ⟨0, 1, by omega, rfl, rfl, by simp, by omega⟩
        case round =>
          obtain ⟨k, q, hk, rfl, rfl, hq, hq64⟩ := hrel
          have HQ := Lib.hid hq; clear hq
          have hm : q * p ≤ 64 * 61 := Nat.mul_le_mul hq64 hp61
          have hv := mul_val (q := q) (p := p) (by omega)
          have HN : Hid (q * p = p ^ (k + 1)) := by show _ = _; rw [Nat.pow_succ, HQ.out]
          obtain ⟨m, hm2⟩ : ∃ m, m = q * p := ⟨_, rfl⟩
          rw [← hm2] at hv hm HN
          clear hm2
          by_cases hlt : k < d
          · by_cases hb : 64 < m
            · have H0 := Lib.hid (ordQ_far (p := p) (d := d) (i := k + 1) (by omega) (by rw [← HN.out]; exact hb) (by omega))
              go_wp2_with fail
              go_ret2
              exact ord_ret H0.out rfl
            · go_wp2_with fail
              go_round
              case rel => exact ⟨k + 1, m, by omega, by go_num, by first | rfl | exact hv, HN.out, by omega⟩
              case measure => simp [intOf]; omega
          · obtain rfl : k = d := by omega
            have H0 := Lib.hid (ordQ_yes HPr.out hd1 hd6 (by rw [← HQ.out]; exact hq64))
            have hq1 : (q != 0) = true := by
              have := pow_one_le (p := p) (by omega) k
              have := HQ.out
              simp; omega
            go_wp2_with fail
            go_ret2
            exact ord_ret (H0.out.trans HQ.out.symm) hq1
end Go.Proofs.YtdbfpdhcaiiiaaaDoor

namespace Go.Proofs.YtdbfpdhcaiiiaaaDoor
open Go.RowKit

/-- So many numbers that a function tells. -/
def nl (f : Nat → Nat) (n : Nat) : List Int := (List.range n).map fun j => ((f j : Nat) : Int)
theorem nl_len (f : Nat → Nat) (n : Nat) : (nl f n).length = n := by simp [nl]
theorem nl_ix (f : Nat → Nat) {n j : Nat} (h : j < n) : ix (nl f n) j = ((f j : Nat) : Int) := by simp [ix, nl, List.getD_eq_getElem?_getD, h]
theorem nl_snoc (f : Nat → Nat) (n : Nat) : nl f (n + 1) = nl f n ++ [((f n : Nat) : Int)] := by simp [nl, List.range_succ]
theorem nl_congr {f g : Nat → Nat} {n : Nat} (h : ∀ j, j < n → f j = g j) : nl f n = nl g n := by
  unfold nl
  exact List.map_congr_left fun j hj => by rw [h j (List.mem_range.1 hj)]
theorem nl_set (f : Nat → Nat) (n j x : Nat) : (nl f n).set j (x : Int) = nl (fun i => if i = j then x else f i) n := by
  apply List.ext_getElem
  · simp [nl]
  · intro i h1 h2
    simp only [nl_len] at h2
    rw [List.getElem_set]
    by_cases e : j = i
    · subst e; rw [if_pos rfl]; simp [nl]
    · rw [if_neg e]
      have e2 : ¬ i = j := fun h => e h.symm
      simp [nl, e2]

theorem pr_isPB {p : Int} (h : p ≤ 64) : prI p = isPB p := by
  by_cases h0 : p < 0
  · have e1 : p.toNat = 0 := by omega
    unfold prI
    rw [e1]
    have e2 : isPB p = false := by
      cases e : isPB p
      · rfl
      · have := isPB_range e; omega
    rw [e2]; rfl
  · obtain ⟨n, rfl⟩ := Int.eq_ofNat_of_zero_le (show 0 ≤ p by omega)
    have key : ((List.range 65).all fun n => prB n == isPB (n : Int)) = true := by decide +kernel
    have := List.all_eq_true.1 key n (List.mem_range.2 (by omega))
    simpa [prI] using this

set_option maxRecDepth 100000 in
set_option maxHeartbeats 2000000 in
theorem orderOf_any (p d : Int) (w : World) :
    Calls Tryd.prog 51 #[.int .i64 p, .int .i64 d] w fun e w' => e = .returned (.int .i64 (ordQ p d : Nat)) ∧ w = w' := by
  by_cases h1 : 64 < p
  · have H0 : Hid (ordQ p d = 0) := by
      show _ = _; unfold ordQ; rw [if_neg]; rintro ⟨h, _⟩; have := isPB_range h; omega
    have ed : decide (64 < p) = true := by simpa using h1
    clear h1
    go_enter Tryd.func51, Tryd.ntmps51
    go_wp2_with fail
    go_ret
    exact ⟨ret_int (by rw [H0.out]; rfl), rfl⟩
  · have ed : decide (64 < p) = false := by simpa using h1
    by_cases h2 : d < 1
    · have H0 := Lib.hid (ordQ_no (p := p) (d := d) (by omega))
      have ed2 : decide (d < 1) = true := by simpa using h2
      clear h1 h2
      go_enter Tryd.func51, Tryd.ntmps51
      go_wp2_with fail
      go_ret
      exact ⟨ret_int (by rw [H0.out]; rfl), rfl⟩
    · have ed2 : decide (d < 1) = false := by simpa using h2
      have HF := Lib.hid (primeX_any p w)
      rw [pr_isPB (show p ≤ 64 by omega)] at HF
      cases e1 : isPB p
      · have H0 := Lib.hid (ordQ_no (p := p) (d := d) (by rw [e1]; simp))
        rw [e1] at HF
        clear e1 h1 h2
        go_enter Tryd.func51, Tryd.ntmps51
        go_wp2_with (go_at_call 45; refine (HF.out).mono ?_; rintro e w' ⟨rfl, rfl⟩)
        go_ret
        exact ⟨ret_int (by rw [H0.out]; rfl), rfl⟩
      · have HPr := Lib.hid e1
        rw [e1] at HF
        clear e1
        obtain ⟨p, rfl⟩ := Int.eq_ofNat_of_zero_le (show 0 ≤ p by have := (isPB_range HPr.out).1; omega)
        obtain ⟨d, rfl⟩ := Int.eq_ofNat_of_zero_le (show 0 ≤ d by omega)
        have hp2 : 2 ≤ p := by have := (isPB_range HPr.out).1; omega
        have hp61 : p ≤ 61 := by have := (isPB_range HPr.out).2; omega
        have hd1 : 1 ≤ d := by omega
        clear h1 h2
        go_enter Tryd.func51, Tryd.ntmps51
        go_wp2_with (go_at_call 45; refine (HF.out).mono ?_; rintro e w' ⟨rfl, rfl⟩)
        clear ed ed2
        go_loop [6, 7] (fun s i => ∃ k q : Nat, k ≤ d ∧ k ≤ 6 ∧ i = .int .i64 k ∧ s = .int .i64 q ∧ q = p ^ k ∧ q ≤ 64) (fun _ i => 10 - (intOf i).toNat)
        case atStart => exact ⟨0, 1, by omega, by omega, rfl, rfl, by simp, by omega⟩
        case round =>
          obtain ⟨k, q, hk, hk6, rfl, rfl, hq, hq64⟩ := hrel
          have HQ := Lib.hid hq; clear hq
          have hm : q * p ≤ 64 * 61 := Nat.mul_le_mul hq64 hp61
          have hv := mul_val (q := q) (p := p) (by omega)
          have HN : Hid (q * p = p ^ (k + 1)) := by show _ = _; rw [Nat.pow_succ, HQ.out]
          obtain ⟨m, hm2⟩ : ∃ m, m = q * p := ⟨_, rfl⟩
          rw [← hm2] at hv hm HN
          clear hm2
          by_cases hlt : k < d
          · by_cases hb : 64 < m
            · have H0 := Lib.hid (ordQ_far (p := p) (d := d) (i := k + 1) (by omega) (by rw [← HN.out]; exact hb) (by omega))
              go_wp2_with fail
              go_ret
              exact ⟨ret_int (by rw [H0.out]; rfl), rfl⟩
            · have hk5 : k + 1 ≤ 6 := pow_up hp2 (by rw [← HN.out]; omega)
              go_wp2_with fail
              go_round
              case rel => exact ⟨k + 1, m, by omega, hk5, by go_num, by first | rfl | exact hv, HN.out, by omega⟩
              case measure => simp [intOf]; omega
          · obtain rfl : k = d := by omega
            have H0 := Lib.hid (ordQ_yes HPr.out hd1 hk6 (by rw [← HQ.out]; exact hq64))
            go_wp2_with fail
            go_ret
            exact ⟨ret_int (by rw [H0.out, HQ.out]), rfl⟩

set_option maxRecDepth 100000 in
set_option maxHeartbeats 2000000 in
theorem rdigits_any (n p m : Nat) (w : World) (hn : n ≤ 64) (hp : 2 ≤ p) (hp2 : p ≤ 64) (hm : m ≤ 100) :
    Calls Tryd.prog 52 #[.int .i64 n, .int .i64 p, .int .i64 m] w fun e w' => ∃ v, e = .returned v ∧ Own w' w.heap.size 3 v (nl (dF p n) m) ∧ Below w.heap.size w w' := by
  have hp0 : ¬ p = 0 := by omega
  go_enter Tryd.func52, Tryd.ntmps52
  go_wp2_with fail
  go_loopw [0, 7, 8] (fun s u i wr => ∃ k q : Nat, k ≤ m ∧ i = .int .i64 k ∧ s = .int .i64 q ∧ q = n / p ^ k ∧ Own wr w.heap.size 3 u (nl (dF p n) k) ∧ Below w.heap.size w wr) (fun _ _ i _ => m - (intOf i).toNat)
  case atStart => exact ⟨0, n, by omega, rfl, rfl, by simp, own_nil _ _ _, Below.refl _ _⟩
  case round =>
    obtain ⟨k, q, hk, rfl, rfl, hq, ho, hb⟩ := hrel
    obtain ⟨ua, ul, uc, rfl⟩ := ho.shape
    have HO := Lib.hid ho; have HB := Lib.hid hb
    have hq64 : q ≤ 64 := by rw [hq]; have := Nat.div_le_self n (p ^ k); omega
    by_cases hlt : k < m
    · have HL : Hid ((nl (dF p n) k).length < 1000000000) := by show _ < _; rw [nl_len]; omega
      obtain ⟨r, hr⟩ : ∃ r, r = q % p := ⟨_, rfl⟩
      have HR : Hid (r = dF p n k) := by show _ = _; rw [hr, hq]; rfl
      have HR1 : Hid (((q : Nat) : Int) % ((p : Nat) : Int) = (r : Int)) := by show _ = _; rw [hr]; exact (Int.natCast_emod _ _).symm
      obtain ⟨t, ht⟩ : ∃ t, t = q / p := ⟨_, rfl⟩
      have HT : Hid (t = n / p ^ (k + 1)) := by show _ = _; rw [ht, hq, Nat.pow_succ, Nat.div_div_eq_div_mul]
      have hw : Hid (wrap64 ((q : Int) / (p : Int)) = (t : Int)) := by
        show _ = _
        have : q / p ≤ q := Nat.div_le_self _ _
        rw [← Int.natCast_ediv, ← ht]
        exact IntWalk.wrap64_in _ (by omega)
      have hv := congrArg (Value.int .i64) hw.out
      clear ho hb hr ht hq
      go_wp2_with (at_builtin; refine app_own rfl _ _ rfl rfl (HO.out.alloc _) _ _ rfl (by rw [World.cell?_alloc_new]; rfl) HL.out (by rw [World.size_alloc]; exact Nat.le_succ_of_le HB.out.size) ?_; intro u2 w1 hown hgrow)
      have HO2 : Hid (Own w1 w.heap.size 3 u2 (nl (dF p n) (k + 1))) := by show Own _ _ _ _ _; rw [nl_snoc, ← HR.out, ← HR1.out]; exact hown
      have HB2 := Lib.hid (below_grown hgrow (B := w.heap.size) (fun q hq => (HO.out.block q hq).1) (by rw [World.size_alloc]; exact Nat.le_succ_of_le HB.out.size))
      have HB3 := Lib.hid (((HB.out.alloc HB.out.size _)).trans HB2.out)
      obtain ⟨xa, xl, xc, rfl⟩ := hown.shape
      clear hown hgrow
      go_wp2_with fail
      go_roundw
      case rel => exact ⟨k + 1, t, by omega, by go_num, by first | exact hv | rfl, HT.out, HO2.out, HB3.out⟩
      case measure => simp [intOf]; omega
    · obtain rfl : k = m := by omega
      go_wp2_with fail
      go_ret
      exact ⟨_, rfl, HO.out, HB.out⟩

set_option maxRecDepth 100000 in
set_option maxHeartbeats 2000000 in
theorem rnumber_any (p d : Nat) (v : Value) (f : Nat → Nat) (w : World) (hI : IntsAt w v (nl f d)) (hp : 2 ≤ p) (hp2 : p ≤ 64) (hd1 : 1 ≤ d) (hd : d ≤ 6) (hq : p ^ d ≤ 64) (hf : ∀ j, j < d → f j < p) :
    Calls Tryd.prog 55 #[v, .int .i64 p] w fun e w' => e = .returned (.int .i64 (numF p d f : Nat)) ∧ w = w' := by
  obtain ⟨a, c, rfl, h1, h2, _, h3⟩ := id hI
  have HX := Lib.hid h3
  have HS : Hid (∀ s, s ≤ d → numS p d f s ≤ 64) := fun s hs => by
    have h1 := numS_lt hf s hs
    have h2 : p ^ s ≤ p ^ d := Nat.pow_le_pow_right (by omega) hs
    omega
  have HFl := Lib.hid hf
  have hl := nl_len f d
  rw [hl] at h1
  rw [hl]
  rw [hl] at HX
  have hd1' : IntKind.i64.wrap ((d : Int) - 1) = (d : Int) - 1 := IntWalk.i64_in _ (by omega)
  clear h3 hf hq hl hI
  go_enter Tryd.func55, Tryd.ntmps55
  go_wp2_with fail
  clear hd1'
  go_loop [5, 6] (fun s i => ∃ t n : Nat, t ≤ d ∧ i = .int .i64 ((d : Int) - 1 - (t : Int)) ∧ s = .int .i64 n ∧ n = numS p d f t) (fun _ i => (intOf i + 1).toNat)
  case atStart => exact ⟨0, 0, by omega, by simp, rfl, rfl⟩
  case round =>
    obtain ⟨t, n, ht, rfl, rfl, hn⟩ := hrel
    have HN := Lib.hid hn
    have hn64 := HS.out t ht
    rw [← hn] at hn64
    clear hn
    by_cases hlt : t < d
    · obtain ⟨j, hj⟩ : ∃ j, j = d - 1 - t := ⟨_, rfl⟩
      have hjd : j < d := by omega
      have hjj : (d : Int) - 1 - (t : Int) = (j : Int) := by omega
      obtain ⟨b, o, rfl, hb, hc⟩ := HX.out j hjd
      have c1 := hc j hjd
      rw [nl_ix f hjd] at c1
      have hfj := HFl.out j hjd
      clear hc
      have hnp : n * p ≤ 64 * 64 := Nat.mul_le_mul hn64 hp2
      have hv1 := mul_val (q := n) (p := p) (by omega)
      have HN2 : Hid (n * p + f j = numS p d f (t + 1)) := by show _ = _; rw [numS, ← HN.out, hj]
      have HJ : Hid ((j : Int) - 1 = (d : Int) - 1 - ((t + 1 : Nat) : Int)) := by show _ = _; omega
      have hbd := HS.out (t + 1) (by omega)
      rw [← HN2.out] at hbd
      clear hj
      rw [hjj]
      clear hjj
      have HW : Hid (wrap64 ((n : Int) * (p : Int)) = ((n * p : Nat) : Int)) := by injection hv1
      obtain ⟨m, hm⟩ : ∃ m, m = n * p := ⟨_, rfl⟩
      rw [← hm] at hv1 HN2 hbd hnp HW
      clear hm
      have hji : (j : Int) < (d : Int) := by omega
      generalize f j = x at *
      go_wp2_with fail
      go_round
      case rel => exact ⟨t + 1, m + x, by omega, congrArg (Value.int .i64) HJ.out, by first | rfl | go_num | (rw [HW.out]; go_num), HN2.out⟩
      case measure => first | (simp [intOf]; done) | (simp [intOf]; omega)
    · obtain rfl : t = d := by omega
      have hjj : (t : Int) - 1 - (t : Int) = -1 := by omega
      rw [hjj]
      clear hjj
      go_wp2_with fail
      go_ret
      exact ⟨ret_int (by rw [HN.out]; rfl), rfl⟩
end Go.Proofs.YtdbfpdhcaiiiaaaDoor

namespace Go.Proofs.YtdbfpdhcaiiiaaaDoor
open Go.RowKit

/-- append of a slice that holds some to an empty one without capacity. -/
theorem app_whole {ops : Array Oper} {rest : List Oper} {o : Oper} {a : Act} {w : World} {Q : Exit → Act → World → Prop} (hgd : o.guard = none) (s x : Operand)
    (ho : o.op = .call { callee := .builtin .append, args := #[s, x], argTypes := #[22, 22] }) {b : Addr} (hs : a.eval s = .slice (some b) 0 0)
    {q : Option Addr} {c : Nat} {ys : List Int} (hI : IntsAt w (.slice q ys.length c) ys) (hx : a.eval x = .slice q ys.length c) (hy : 0 < ys.length) (hl : ys.length < 1000000000)
    (h : ∀ v' w', Own w' w.heap.size 3 v' ys → w.grownBy w' none → wpList Tryd.prog ops Q rest (a.put o.dst v') w') : wpList Tryd.prog ops Q (o :: rest) a w := by
  obtain ⟨i0, hi0, hz0, hz1, hz2⟩ := info_parts info_int
  obtain ⟨a', c', e, h2, h3, h4, h5⟩ := hI
  injection e with e1 e2 e3
  subst e1; subst e3
  obtain ⟨p, off, rfl, hbb, hc⟩ := h5 0 hy
  refine wpList_append_grows w hgd s x 22 ho 3 i0 _ 1 8 Tryd.underlying22 hi0 hz0 hz1 hz2 rfl (by omega) (some b) 0 0 [] hs
    (fun hn => by cases hn) rfl (fun p _ j u hu => by simp at hu) ⟨p, off, none⟩ ys.length c (cellsOf ys) hx (by rw [cellsOf_len]; omega) (fun j u hu => ?_) (fun u hu => ?_) (by omega) (by unfold maxLen; omega) (by omega) ?_
  · have hj : j < ys.length := by
      obtain ⟨q, _⟩ := List.getElem?_eq_some_iff.1 hu
      rw [cellsOf_len] at q; exact q
    rw [Addr.add_lit, hc j hj]
    unfold cellsOf at hu
    rw [List.getElem?_map, List.getElem?_eq_getElem hj] at hu
    rw [ix_lt hj]; exact hu
  · unfold cellsOf at hu
    obtain ⟨y, _, rfl⟩ := List.mem_map.1 hu
    rfl
  · intro v' w' h1 h2
    refine h v' w' ?_ h2
    unfold Own
    rw [Nat.zero_add, List.nil_append] at h1
    exact h1
theorem IntsAt.some {w : World} {a : Option Addr} {n c : Nat} {xs : List Int} (h : IntsAt w (.slice a n c) xs) (hp : 0 < xs.length) : ∃ b o, a = some ⟨b, o, none⟩ := by
  obtain ⟨a', c', e, _, _, _, h5⟩ := h
  obtain ⟨b, o, e2, _⟩ := h5 0 hp
  injection e with e1 _ _
  exact ⟨b, o, e1.trans e2⟩

end Go.Proofs.YtdbfpdhcaiiiaaaDoor
