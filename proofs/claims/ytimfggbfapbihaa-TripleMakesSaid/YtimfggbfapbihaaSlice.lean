/-
  Parts of slices of ints; append to a full slice; slices.Index, slices.Contains over ints. No condition.
-/
import Derived.Test.YtimfggbfapbihaaOwn
import Derived.Test.YtimfggbfapbihaaPure
import Derived.ArgAppend
namespace Go.Proofs.Ytimfggbfapbihaa
open Go.RowKit

/-- A part of a slice of ints. -/
def sliv (a : Option Addr) (l h m : Nat) : Value := sliced a l h m 1
theorem size_int (w : World) : (Go.sizeOf (Try.prog.elem 37)).run Try.prog w = .ok 1 w := by kernel_rfl
theorem und_ints : Try.prog.underlying 37 = some (.slice (Try.prog.elem 37)) := by kernel_rfl
theorem run_tail (w : World) (a : Option Addr) (n c l : Nat) (hl : l ≤ n) :
    (Instr.slice 37 (.slice a n c) (some (.int .i64 (l : Int))) none none).run Try.prog w = .ok (sliv a l n c) w := by
  rw [run_slice_l w 37 a n c und_ints .i64 l (by omega) (by omega), size_int]
  simp [Result.andThen, sliv]
theorem run_mid (w : World) (a : Option Addr) (n c l h : Nat) (hl : l ≤ h) (hh : h ≤ c) :
    (Instr.slice 37 (.slice a n c) (some (.int .i64 (l : Int))) (some (.int .i64 (h : Int))) none).run Try.prog w = .ok (sliv a l h c) w := by
  rw [run_slice_lh w 37 a n c und_ints .i64 .i64 l h (by omega) (by omega) (by omega), size_int]
  simp [Result.andThen, sliv]
theorem run_full (w : World) (a : Option Addr) (n c : Nat) (hn : n ≤ c) :
    (Instr.slice 37 (.slice a n c) none (some (.int .i64 (n : Int))) (some (.int .i64 (n : Int)))).run Try.prog w = .ok (.slice a n n) w := by
  rw [run_slice_hm w 37 a n c und_ints .i64 .i64 n n (by omega) (by omega) (by omega), size_int]
  cases a with
  | none => simp [Result.andThen, sliced]
  | some p => cases p; simp [Result.andThen, sliced, Addr.add]

theorem ix_drop (xs : List Int) (l i : Nat) : ix (xs.drop l) i = ix xs (l + i) := by
  unfold ix; rw [List.getD_eq_getElem?_getD, List.getD_eq_getElem?_getD, List.getElem?_drop]
theorem ix_take {xs : List Int} {h i : Nat} (hi : i < h) : ix (xs.take h) i = ix xs i := by
  unfold ix; rw [List.getD_eq_getElem?_getD, List.getD_eq_getElem?_getD, List.getElem?_take_of_lt hi]
theorem intsAt_sliv {w : World} {a : Option Addr} {c : Nat} {xs : List Int} (H : IntsAt w (.slice a xs.length c) xs) {l h : Nat} (hl : l ≤ h) (hh : h ≤ xs.length) :
    IntsAt w (sliv a l h c) ((xs.take h).drop l) := by
  obtain ⟨a', c', e, h2, h3, h4, h5⟩ := H
  injection e with e1 e2 e3
  subst e1; subst e3
  have hlen : ((xs.take h).drop l).length = h - l := by simp; omega
  unfold sliv sliced
  refine ⟨_, c - l, by rw [hlen], by rw [hlen]; omega, by omega, fun hn => ?_, fun i hi => ?_⟩
  · by_cases e : c = l
    · omega
    · rw [if_neg e] at hn
      cases a with
      | none => have := h4 rfl; omega
      | some p => cases hn
  · rw [hlen] at hi
    obtain ⟨b, o, rfl, hb, hc⟩ := h5 l (by omega)
    refine ⟨b, o + l, ?_, hb, fun j hj => ?_⟩
    · rw [if_neg (by omega)]; simp [Addr.add]
    · rw [hlen] at hj
      rw [ix_drop, ix_take (by omega), Nat.add_assoc]
      exact hc (l + j) (by omega)

/-- A slice's block is B or a later one. -/
def FarV (B : Nat) : Value → Prop
  | .slice (some p) _ _ => B ≤ p.block
  | _ => True
theorem IntsAt.setFar {w : World} {v : Value} {xs : List Int} (h : IntsAt w v xs) {B : Nat} (hf : FarV B v) {p : Addr} (hp : p.block < B) (x : Value) : IntsAt (w.setCell p x) v xs := by
  obtain ⟨a, c, rfl, h2, h3, h4, h5⟩ := h
  refine ⟨a, c, rfl, h2, h3, h4, fun i hi => ?_⟩
  obtain ⟨b, o, rfl, hb, hc⟩ := h5 i hi
  have hB : B ≤ (⟨b, o, none⟩ : Addr).block := hf
  refine ⟨b, o, rfl, by rw [World.size_setCell]; exact hb, fun j hj => ?_⟩
  rw [World.cell?_setCell_other _ _ _ _ (by intro e; have e2 := congrArg Addr.block e; dsimp only at e2 hB; omega)]
  exact hc j hj
theorem Own.far {w : World} {base : Nat} {t : TypeId} {v : Value} {xs : List Int} (h : Own w base t v xs) {B : Nat} (hB : B ≤ base) : FarV B v := by
  rcases h.2 with ⟨rfl, _⟩ | ⟨g, cap, cur, rfl, hg, _⟩
  · exact trivial
  · show B ≤ g; omega
theorem IntsAt.capLe {w : World} {a : Option Addr} {n c : Nat} {xs : List Int} (h : IntsAt w (.slice a n c) xs) : xs.length ≤ c := by
  obtain ⟨a', c', e, h2, _⟩ := h
  injection e with _ _ e3
  rw [e3]; exact h2

set_option maxRecDepth 100000 in
/-- append of one int to a slice whose capacity is its length. -/
theorem app_full {ops : Array Oper} {rest : List Oper} {o : Oper} {a : Act} {w : World} {Q : Exit → Act → World → Prop} (hgd : o.guard = none) (s x : Operand)
    (ho : o.op = .call { callee := .builtin .append, args := #[s, x], argTypes := #[37, 37] }) {a0 : Option Addr} {c : Nat} {xs : List Int} (hs : a.eval s = .slice a0 xs.length xs.length) (hI : IntsAt w (.slice a0 xs.length c) xs)
    (g : Nat) (y : Int) (hx : a.eval x = .slice (some ⟨g, 0, none⟩) 1 1) (hc : w.cell? ⟨g, 0, none⟩ = some (.int .i64 y)) (hl : xs.length < 1000000000)
    (h : ∀ v' w', Own w' w.heap.size 3 v' (xs ++ [y]) → w.grownBy w' none → wpList Try.prog ops Q rest (a.put o.dst v') w') : wpList Try.prog ops Q (o :: rest) a w := by
  obtain ⟨i0, hi0, hz0, hz1, hz2⟩ := info_parts info_int
  obtain ⟨a', c', e, h2, h3, h4, h5⟩ := hI
  injection e with e1 e2 e3
  subst e1; subst e3
  refine wpList_append_grows w hgd s x 37 ho 3 i0 _ 1 8 Try.underlying37 hi0 hz0 hz1 hz2 rfl (by omega) a0 xs.length xs.length (cellsOf xs) hs
    (fun hn => by have := h4 hn; omega) (by rw [cellsOf_len]; omega) (fun p hp j u hu => ?_) ⟨g, 0, none⟩ 1 1 [.int .i64 y] hx rfl (news_one hc) (by simp [Value.oneCell']) (by omega) (by unfold maxLen; omega) (by omega) ?_
  · have hj : j < xs.length := by
      have := List.getElem?_eq_some_iff.1 hu
      obtain ⟨q, _⟩ := this
      rw [cellsOf_len] at q; exact q
    obtain ⟨b, o, rfl, hb, hc'⟩ := h5 j hj
    injection hp with hp
    subst hp
    rw [Addr.add_lit]
    rw [hc' j hj]
    unfold cellsOf at hu
    rw [List.getElem?_map, List.getElem?_eq_getElem hj] at hu
    rw [ix_lt hj]; exact hu
  · intro v' w' h1 h2
    refine h v' w' ?_ h2
    unfold Own
    rw [cellsOf_snoc, List.length_append]
    exact h1

theorem any_mem (x : Int) (xs : List Int) : anyB (fun y => x == y) xs = mem xs x := by
  unfold anyB mem
  rw [Bool.eq_iff_iff]
  simp only [List.any_eq_true, beq_iff_eq, List.contains_iff_mem]
  constructor
  · rintro ⟨y, hy, rfl⟩; exact hy
  · intro h; exact ⟨x, h, rfl⟩
end Go.Proofs.Ytimfggbfapbihaa
