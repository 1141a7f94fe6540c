/-
  Parts of slices of ints; append to a full slice; slices.Index, slices.Contains over ints. No condition.
  Rising lists: the plain words; slices.ContainsFunc at a plain function. No condition.
-/
import Derived.Test.YtdbfpdhcaiiiaaaDoorPDifferMade3
import Derived.Test.YtdbfpdhcaiiiaaaDoorPDifferMade2
import Derived.ArgAppend
namespace Go.Proofs.YtdbfpdhcaiiiaaaDoor
open Go.RowKit

/-- A part of a slice of ints. -/
def sliv (a : Option Addr) (l h m : Nat) : Value := sliced a l h m 1
theorem size_int (w : World) : (Go.sizeOf (Tryd.prog.elem 22)).run Tryd.prog w = .ok 1 w := by kernel_rfl
theorem und_ints : Tryd.prog.underlying 22 = some (.slice (Tryd.prog.elem 22)) := by kernel_rfl
theorem run_tail (w : World) (a : Option Addr) (n c l : Nat) (hl : l ≤ n) :
    (Instr.slice 22 (.slice a n c) (some (.int .i64 (l : Int))) none none).run Tryd.prog w = .ok (sliv a l n c) w := by
  rw [run_slice_l w 22 a n c und_ints .i64 l (by omega) (by omega), size_int]
  simp [Result.andThen, sliv]
theorem run_mid (w : World) (a : Option Addr) (n c l h : Nat) (hl : l ≤ h) (hh : h ≤ c) :
    (Instr.slice 22 (.slice a n c) (some (.int .i64 (l : Int))) (some (.int .i64 (h : Int))) none).run Tryd.prog w = .ok (sliv a l h c) w := by
  rw [run_slice_lh w 22 a n c und_ints .i64 .i64 l h (by omega) (by omega) (by omega), size_int]
  simp [Result.andThen, sliv]
theorem run_full (w : World) (a : Option Addr) (n c : Nat) (hn : n ≤ c) :
    (Instr.slice 22 (.slice a n c) none (some (.int .i64 (n : Int))) (some (.int .i64 (n : Int)))).run Tryd.prog w = .ok (.slice a n n) w := by
  rw [run_slice_hm w 22 a n c und_ints .i64 .i64 n n (by omega) (by omega) (by omega), size_int]
  cases a with
  | none => simp [Result.andThen, sliced]
  | some p => cases p; simp [Result.andThen, sliced, Addr.add]

theorem ix_drop (xs : List Int) (l i : Nat) : ix (xs.drop l) i = ix xs (l + i) := by
  unfold ix; rw [List.getD_eq_getElem?_getD, List.getD_eq_getElem?_getD, List.getElem?_drop]
theorem ix_take {xs : List Int} {h i : Nat} (hi : i < h) : ix (xs.take h) i = ix xs i := by
  unfold ix; rw [List.getD_eq_getElem?_getD, List.getD_eq_getElem?_getD, List.getElem?_take_of_lt hi]
theorem intsAt_sliv {w : World} {a : Option Addr} {c : Nat} {xs : List Int} (H : IntsAt w (.slice a xs.length c) xs) {l h : Nat} (hl : l ≤ h) (hh : h ≤ xs.length) :
    IntsAt w (sliv a l h c) ((xs.take h).drop l) := by
  obtain ⟨a', c', e, h2, h3, h4, h5⟩ := H
  injection e with e1 e2 e3
  subst e1; subst e3
  have hlen : ((xs.take h).drop l).length = h - l := by simp; omega
  unfold sliv sliced
  refine ⟨_, c - l, by rw [hlen], by rw [hlen]; omega, by omega, fun hn => ?_, fun i hi => ?_⟩
  · by_cases e : c = l
    · omega
    · rw [if_neg e] at hn
      cases a with
      | none => have := h4 rfl; omega
      | some p => cases hn
  · rw [hlen] at hi
    obtain ⟨b, o, rfl, hb, hc⟩ := h5 l (by omega)
    refine ⟨b, o + l, ?_, hb, fun j hj => ?_⟩
    · rw [if_neg (by omega)]; simp [Addr.add]
    · rw [hlen] at hj
      rw [ix_drop, ix_take (by omega), Nat.add_assoc]
      exact hc (l + j) (by omega)

/-- A slice's block is B or a later one. -/
def FarV (B : Nat) : Value → Prop
  | .slice (some p) _ _ => B ≤ p.block
  | _ => True
theorem IntsAt.setFar {w : World} {v : Value} {xs : List Int} (h : IntsAt w v xs) {B : Nat} (hf : FarV B v) {p : Addr} (hp : p.block < B) (x : Value) : IntsAt (w.setCell p x) v xs := by
  obtain ⟨a, c, rfl, h2, h3, h4, h5⟩ := h
  refine ⟨a, c, rfl, h2, h3, h4, fun i hi => ?_⟩
  obtain ⟨b, o, rfl, hb, hc⟩ := h5 i hi
  have hB : B ≤ (⟨b, o, none⟩ : Addr).block := hf
  refine ⟨b, o, rfl, by rw [World.size_setCell]; exact hb, fun j hj => ?_⟩
  rw [World.cell?_setCell_other _ _ _ _ (by intro e; have e2 := congrArg Addr.block e; dsimp only at e2 hB; omega)]
  exact hc j hj
theorem Own.far {w : World} {base : Nat} {t : TypeId} {v : Value} {xs : List Int} (h : Own w base t v xs) {B : Nat} (hB : B ≤ base) : FarV B v := by
  rcases h.2 with ⟨rfl, _⟩ | ⟨g, cap, cur, rfl, hg, _⟩
  · exact trivial
  · show B ≤ g; omega
theorem IntsAt.capLe {w : World} {a : Option Addr} {n c : Nat} {xs : List Int} (h : IntsAt w (.slice a n c) xs) : xs.length ≤ c := by
  obtain ⟨a', c', e, h2, _⟩ := h
  injection e with _ _ e3
  rw [e3]; exact h2

set_option maxRecDepth 100000 in
/-- append of one int to a slice whose capacity is its length. -/
theorem app_full {ops : Array Oper} {rest : List Oper} {o : Oper} {a : Act} {w : World} {Q : Exit → Act → World → Prop} (hgd : o.guard = none) (s x : Operand)
    (ho : o.op = .call { callee := .builtin .append, args := #[s, x], argTypes := #[22, 22] }) {a0 : Option Addr} {c : Nat} {xs : List Int} (hs : a.eval s = .slice a0 xs.length xs.length) (hI : IntsAt w (.slice a0 xs.length c) xs)
    (g : Nat) (y : Int) (hx : a.eval x = .slice (some ⟨g, 0, none⟩) 1 1) (hc : w.cell? ⟨g, 0, none⟩ = some (.int .i64 y)) (hl : xs.length < 1000000000)
    (h : ∀ v' w', Own w' w.heap.size 3 v' (xs ++ [y]) → w.grownBy w' none → wpList Tryd.prog ops Q rest (a.put o.dst v') w') : wpList Tryd.prog ops Q (o :: rest) a w := by
  obtain ⟨i0, hi0, hz0, hz1, hz2⟩ := info_parts info_int
  obtain ⟨a', c', e, h2, h3, h4, h5⟩ := hI
  injection e with e1 e2 e3
  subst e1; subst e3
  refine wpList_append_grows w hgd s x 22 ho 3 i0 _ 1 8 Tryd.underlying22 hi0 hz0 hz1 hz2 rfl (by omega) a0 xs.length xs.length (cellsOf xs) hs
    (fun hn => by have := h4 hn; omega) (by rw [cellsOf_len]; omega) (fun p hp j u hu => ?_) ⟨g, 0, none⟩ 1 1 [.int .i64 y] hx rfl (news_one hc) (by simp [Value.oneCell']) (by omega) (by unfold maxLen; omega) (by omega) ?_
  · have hj : j < xs.length := by
      have := List.getElem?_eq_some_iff.1 hu
      obtain ⟨q, _⟩ := this
      rw [cellsOf_len] at q; exact q
    obtain ⟨b, o, rfl, hb, hc'⟩ := h5 j hj
    injection hp with hp
    subst hp
    rw [Addr.add_lit]
    rw [hc' j hj]
    unfold cellsOf at hu
    rw [List.getElem?_map, List.getElem?_eq_getElem hj] at hu
    rw [ix_lt hj]; exact hu
  · intro v' w' h1 h2
    refine h v' w' ?_ h2
    unfold Own
    rw [cellsOf_snoc, List.length_append]
    exact h1

theorem any_mem (x : Int) (xs : List Int) : anyB (fun y => x == y) xs = mem xs x := by
  unfold anyB mem
  rw [Bool.eq_iff_iff]
  simp only [List.any_eq_true, beq_iff_eq, List.contains_iff_mem]
  constructor
  · rintro ⟨y, hy, rfl⟩; exact hy
  · intro h; exact ⟨x, h, rfl⟩
end Go.Proofs.YtdbfpdhcaiiiaaaDoor

namespace Go.Proofs.YtdbfpdhcaiiiaaaDoor
open Go.RowKit

/-- Is one of the first k steps none upwards? -/
def notInc (l : List Int) : Nat → Bool
  | 0 => false
  | k + 1 => notInc l k || decide (ix l (k + 1) ≤ ix l k)
def incB (l : List Int) : Bool := !notInc l (l.length - 1)
theorem notInc_hit {l : List Int} {k m : Nat} (h : k < m) (e : ix l (k + 1) ≤ ix l k) : notInc l m = true := by
  induction m with
  | zero => omega
  | succ m ih =>
    rw [notInc]
    by_cases hk : k = m
    · subst hk; simp [e]
    · simp [ih (by omega)]
theorem notInc_step {l : List Int} : ∀ {m : Nat}, notInc l m = false → ∀ {k : Nat}, k < m → ix l k < ix l (k + 1)
  | 0, _, k, hk => by omega
  | m + 1, h, k, hk => by
    rw [notInc, Bool.or_eq_false_iff] at h
    by_cases e : k = m
    · subst e; have := h.2; simp at this; exact this
    · exact notInc_step h.1 (by omega)
theorem inc_lt {l : List Int} (h : incB l = true) {i j : Nat} (hij : i < j) (hj : j < l.length) : ix l i < ix l j := by
  unfold incB at h
  rw [Bool.not_eq_true'] at h
  induction j with
  | zero => omega
  | succ j ih =>
    have h1 := notInc_step h (k := j) (by omega)
    by_cases e : i = j
    · subst e; exact h1
    · have := ih (by omega) (by omega); omega
theorem inc_of {l : List Int} (h : ∀ i j, i < j → j < l.length → ix l i < ix l j) : incB l = true := by
  unfold incB
  rw [Bool.not_eq_true']
  have : ∀ m, m ≤ l.length - 1 → notInc l m = false := by
    intro m
    induction m with
    | zero => intro _; rfl
    | succ m ih =>
      intro hm
      rw [notInc, ih (by omega), Bool.false_or, decide_eq_false_iff_not]
      have := h m (m + 1) (by omega) (by omega)
      omega
  exact this _ (Nat.le_refl _)
def outV (v x : Int) : Bool := decide (x < 0 ∨ v ≤ x)
theorem outV_neg {n x : Int} (h : x < 0) : outV n x = true := by simp [outV, h]
theorem outV_pos {n x : Int} (h : ¬ x < 0) : outV n x = decide (n ≤ x) := by simp [outV, h]
theorem anyV {v : Int} {xs : List Int} (h : anyB (outV v) xs = false) : ∀ k, k < xs.length → 0 ≤ ix xs k ∧ ix xs k < v := by
  intro k hk
  unfold anyB at h
  rw [List.any_eq_false] at h
  have := h _ (ix_mem hk)
  simp [outV] at this
  omega
theorem anyV_of {v : Int} {xs : List Int} (h : ∀ k, k < xs.length → 0 ≤ ix xs k ∧ ix xs k < v) : anyB (outV v) xs = false := by
  unfold anyB
  rw [List.any_eq_false]
  intro x hx
  obtain ⟨i, hi, rfl⟩ := List.getElem_of_mem hx
  have := h i hi
  rw [ix_lt hi] at this
  simp [outV]; omega
/-- What is wrong with a set of numbers below v. -/
def setFault (v : Int) (xs : List Int) : Int := if v < 1 ∨ 60 < v then 1 else if anyB (outV v) xs then 1 else if incB xs then 0 else 2
structure IsSet (v : Int) (xs : List Int) : Prop where
  lo : 1 ≤ v
  hi : v ≤ 60
  rng : ∀ k, k < xs.length → 0 ≤ ix xs k ∧ ix xs k < v
  inc : incB xs = true
theorem set_of {v : Int} {xs : List Int} (h : setFault v xs = 0) : IsSet v xs := by
  unfold setFault at h
  by_cases h1 : v < 1 ∨ 60 < v
  · rw [if_pos h1] at h; cases h
  · rw [if_neg h1] at h
    cases h2 : anyB (outV v) xs
    · rw [h2] at h
      cases h3 : incB xs
      · rw [h3] at h; cases h
      · exact ⟨by omega, by omega, anyV h2, h3⟩
    · rw [h2] at h; cases h
theorem IsSet.fault {v : Int} {xs : List Int} (h : IsSet v xs) : setFault v xs = 0 := by
  have := h.lo; have := h.hi
  unfold setFault
  rw [if_neg (by omega), anyV_of h.rng, h.inc]; rfl
/-- A rising list of numbers below v is no longer than v. -/
theorem inc_len {v : Int} {xs : List Int} (hr : ∀ k, k < xs.length → 0 ≤ ix xs k ∧ ix xs k < v) (hi : incB xs = true) (hv : 0 ≤ v) : (xs.length : Int) ≤ v := by
  have key : ∀ k, k < xs.length → (k : Int) ≤ ix xs k := by
    intro k
    induction k with
    | zero => intro hk; exact (hr 0 hk).1
    | succ k ih =>
      intro hk
      have h1 := ih (by omega)
      have h2 := inc_lt hi (show k < k + 1 by omega) hk
      omega
  by_cases e : xs.length = 0
  · omega
  · have h1 := key (xs.length - 1) (by omega)
    have h2 := hr (xs.length - 1) (by omega)
    omega

set_option maxHeartbeats 400000 in
theorem indexFunc0_any (g : FuncId) (hg : ∀ (args : Array Value) (w : World), (callFunc g args).run Tryd.prog w = .ok (.enter g args) w) (p : Int → Bool) (v : Value) (xs : List Int) (w : World) (h : IntsAt w v xs)
    (hp : ∀ x, Calls Tryd.prog g #[.int .i64 x] w fun e w' => e = .returned (.bool (p x)) ∧ w = w') :
    Calls Tryd.prog 71 #[v, .func (.func g) #[] #[]] w fun e w' => e = .returned (.int .i64 (findI p xs)) ∧ w = w' := by
  have Hp := Lib.hid hp; clear hp
  obtain ⟨a, c, rfl, h1, h2, _, h3⟩ := h
  go_enter Tryd.func71, Tryd.ntmps71
  go_wp2
  go_loop [8] (fun i => ∃ k : Nat, k ≤ xs.length ∧ i = .int .i64 k ∧ anyB p (xs.take k) = false) (fun i => xs.length - (intOf i).toNat)
  case atStart => exact ⟨0, by omega, rfl, by simp [anyB]⟩
  case round =>
    obtain ⟨k, hk, rfl, hn⟩ := hrel
    have Hn := Lib.hid hn; clear hn
    by_cases hlt : k < xs.length
    · obtain ⟨b, o, rfl, hb, hc⟩ := h3 k hlt
      have hcell := hc k hlt
      clear hc h3
      cases ep : p (ix xs k)
      all_goals
        have Hep := Lib.hid ep; clear ep
        go_wp2_with (refine (Hp.out _).mono ?_; rw [Hep.out]; rintro e w' ⟨rfl, rfl⟩)
      · go_round
        case rel => exact ⟨k + 1, by omega, by go_num, by rw [any_take hlt, Hn.out, Hep.out]; rfl⟩
        case measure => simp [intOf]; omega
      · go_ret
        exact ⟨ret_int (findI_hit hlt Hn.out Hep.out).symm, rfl⟩
    · obtain rfl : k = xs.length := by omega
      go_wp2
      go_ret
      exact ⟨ret_int (findI_none (by simpa using Hn.out)).symm, rfl⟩
theorem containsFunc0_any (g : FuncId) (hg : ∀ (args : Array Value) (w : World), (callFunc g args).run Tryd.prog w = .ok (.enter g args) w) (p : Int → Bool) (v : Value) (xs : List Int) (w : World) (h : IntsAt w v xs)
    (hp : ∀ x, Calls Tryd.prog g #[.int .i64 x] w fun e w' => e = .returned (.bool (p x)) ∧ w = w') :
    Calls Tryd.prog 57 #[v, .func (.func g) #[] #[]] w fun e w' => e = .returned (.bool (anyB p xs)) ∧ w = w' := by
  have Hc := Lib.hid (indexFunc0_any g hg p v xs w h hp)
  clear hp h hg
  have e := findI_pos p xs
  have He := Lib.hid e; clear e
  go_enter Tryd.func57, Tryd.ntmps57
  go_wp2_with (go_at_call 71; refine (Hc.out).mono ?_; rintro e w' ⟨rfl, rfl⟩)
  go_ret
  exact ⟨ret_bool He.out, rfl⟩
end Go.Proofs.YtdbfpdhcaiiiaaaDoor
