/-
  What a slice of ints, and a slice of such slices, reads as in a world; how that lasts while memory is made. No condition.
  Slices of ints that a call makes itself and grows by append. No condition.
  Contract: the library's slices.Sort, on ints of the call's own. No condition.
  Plain definitions that the walks speak of: lists of ints, Latin squares. No program in sight. No condition.
  Parts of slices of ints; append to a full slice; slices.Index, slices.Contains over ints. No condition.
-/
import Derived.WalkKit
import Derived.WalkSpells
import Derived.WalkLawsBesides
import Derived.IntWalk
import Derived.BigQuiet
import Derived.Deep.QuietTactic
import Derived.Lib.Hide
import Derived.Test.YtdbfpdhcaiiiaaaDoorRows
import Derived.Deep.AppendLies
import Derived.Laws.AppendOwn
import Derived.Sort.OwnSortedInts
import Derived.Test.YtdbfpdhcaiiiaaaDoorSortLay
import Derived.ArgAppend
namespace Go.Proofs.YtdbfpdhcaiiiaaaDoor
open Go.RowKit

/-- Element i of a list of ints (behind a plain name, so that the walk leaves it alone). -/
def ix (xs : List Int) (i : Nat) : Int := xs.getD i 0
/-- Element i of a list of rows. -/
def rx (xss : List (List Int)) (i : Nat) : List Int := xss.getD i []

theorem ix_lt {xs : List Int} {i : Nat} (h : i < xs.length) : ix xs i = xs[i] := by simp [ix, h]
theorem ix_mem {xs : List Int} {i : Nat} (h : i < xs.length) : ix xs i ∈ xs := by rw [ix_lt h]; exact List.getElem_mem h
theorem rx_lt {xss : List (List Int)} {i : Nat} (h : i < xss.length) : rx xss i = xss[i] := by simp [rx, h]
theorem rx_mem {xss : List (List Int)} {i : Nat} (h : i < xss.length) : rx xss i ∈ xss := by rw [rx_lt h]; exact List.getElem_mem h

/-- All fit an int. -/
def Fits (xs : List Int) : Prop := ∀ n ∈ xs, -9223372036854775808 ≤ n ∧ n ≤ 9223372036854775807

/-- The slice value v reads as the ints xs in w. -/
def IntsAt (w : World) (v : Value) (xs : List Int) : Prop :=
  ∃ (a : Option Addr) (c : Nat), v = .slice a xs.length c ∧ xs.length ≤ c ∧ c ≤ 9223372036854775807 ∧ (a = none → c = 0) ∧
    (∀ i, i < xs.length → ∃ b o, a = some ⟨b, o, none⟩ ∧ b < w.heap.size ∧ ∀ j, j < xs.length → w.cell? ⟨b, o + j, none⟩ = some (.int .i64 (ix xs j)))

/-- The slice value v reads as the rows xss in w. -/
def RowsAt (w : World) (v : Value) (xss : List (List Int)) : Prop :=
  ∃ (a : Option Addr) (c : Nat) (V : Nat → Value), v = .slice a xss.length c ∧ xss.length ≤ c ∧ c ≤ 9223372036854775807 ∧ (a = none → c = 0) ∧
    (∀ i, i < xss.length → IntsAt w (V i) (rx xss i) ∧ ∃ b o, a = some ⟨b, o, none⟩ ∧ b < w.heap.size ∧ ∀ j, j < xss.length → w.cell? ⟨b, o + j, none⟩ = some (V j))

theorem IntsAt.below {w w' : World} {v : Value} {xs : List Int} (h : IntsAt w v xs) (hb : Below w.heap.size w w') : IntsAt w' v xs := by
  obtain ⟨a, c, h1, h2, h3, h4, h5⟩ := h
  refine ⟨a, c, h1, h2, h3, h4, fun i hi => ?_⟩
  obtain ⟨b, o, e, hl, hc⟩ := h5 i hi
  exact ⟨b, o, e, Nat.lt_of_lt_of_le hl hb.size, fun j hj => by rw [hb.cell (p := ⟨b, o + j, none⟩) hl]; exact hc j hj⟩

theorem RowsAt.below {w w' : World} {v : Value} {xss : List (List Int)} (h : RowsAt w v xss) (hb : Below w.heap.size w w') : RowsAt w' v xss := by
  obtain ⟨a, c, V, h1, h2, h3, h4, h5⟩ := h
  refine ⟨a, c, V, h1, h2, h3, h4, fun i hi => ?_⟩
  obtain ⟨hr, b, o, e, hl, hc⟩ := h5 i hi
  exact ⟨hr.below hb, b, o, e, Nat.lt_of_lt_of_le hl hb.size, fun j hj => by rw [hb.cell (p := ⟨b, o + j, none⟩) hl]; exact hc j hj⟩

theorem intsAt_nil (w : World) : IntsAt w (.slice none 0 0) [] :=
  ⟨none, 0, rfl, Nat.le_refl _, by omega, fun _ => rfl, fun i hi => by simp at hi⟩

theorem IntsAt.len {w : World} {v : Value} {xs : List Int} (h : IntsAt w v xs) : xs.length ≤ 9223372036854775807 := by
  obtain ⟨a, c, _, h2, h3, _⟩ := h; omega

/-- What is below the heap's size stays below when the heap has grown. -/
theorem belowTrans {a b c : World} (h : Below a.heap.size a b) (k : Below b.heap.size b c) : Below a.heap.size a c :=
  h.trans (k.mono h.size)

/-- The first n cells of block b hold f, and may be written. -/
def Arr (w : World) (b n : Nat) (f : Nat → Value) : Prop :=
  b < w.heap.size ∧ ∀ j, j < n → w.cell? ⟨b, j, none⟩ = some (f j) ∧ w.frozen? ⟨b, j, none⟩ = false
theorem Arr.lt {w : World} {b n : Nat} {f : Nat → Value} (h : Arr w b n f) : b < w.heap.size := h.1
theorem Arr.cell {w : World} {b n : Nat} {f : Nat → Value} (h : Arr w b n f) {j : Nat} (hj : j < n) : w.cell? ⟨b, j, none⟩ = some (f j) := (h.2 j hj).1
theorem Arr.free {w : World} {b n : Nat} {f : Nat → Value} (h : Arr w b n f) {j : Nat} (hj : j < n) : w.frozen? ⟨b, j, none⟩ = false := (h.2 j hj).2
theorem Arr.congr {w : World} {b n : Nat} {f g : Nat → Value} (h : Arr w b n f) (e : ∀ j, j < n → f j = g j) : Arr w b n g :=
  ⟨h.1, fun j hj => ⟨by rw [h.cell hj, e j hj], h.free hj⟩⟩
theorem Arr.set {w : World} {b n : Nat} {f : Nat → Value} (h : Arr w b n f) {j : Nat} (hj : j < n) (v : Value) :
    Arr (w.setCell ⟨b, j, none⟩ v) b n (fun i => if i = j then v else f i) := by
  refine ⟨by rw [World.size_setCell]; exact h.1, fun i hi => ⟨?_, by rw [World.frozen?_setCell]; exact h.free hi⟩⟩
  show _ = some (if i = j then v else f i)
  by_cases e : i = j
  · subst e; rw [if_pos rfl]; exact World.cell?_setCell_same _ _ _ (h.cell hi)
  · rw [if_neg e, World.cell?_setCell_other _ _ _ _ (by intro e2; injection e2; omega)]; exact h.cell hi
theorem Arr.setOther {w : World} {b n : Nat} {f : Nat → Value} (h : Arr w b n f) {p : Addr} (hp : p.block ≠ b) (v : Value) : Arr (w.setCell p v) b n f := by
  refine ⟨by rw [World.size_setCell]; exact h.1, fun i hi => ⟨?_, by rw [World.frozen?_setCell]; exact h.free hi⟩⟩
  rw [World.cell?_setCell_other _ _ _ _ (by intro e; subst e; exact hp rfl)]; exact h.cell hi
theorem Arr.alloc {w : World} {b n : Nat} {f : Nat → Value} (h : Arr w b n f) (o : Obj) : Arr (w.alloc o) b n f := by
  refine ⟨by have := h.1; simp; omega, fun i hi => ⟨?_, ?_⟩⟩
  · rw [World.cell?_alloc_old _ _ _ (Nat.ne_of_lt h.1)]; exact h.cell hi
  · rw [World.frozen?_alloc_old _ _ _ (Nat.ne_of_lt h.1)]; exact h.free hi
theorem Arr.drewN {w : World} {b n : Nat} {f : Nat → Value} (h : Arr w b n f) (m : Nat) : Arr (w.drewN m) b n f := h
theorem Arr.drew {w : World} {b n : Nat} {f : Nat → Value} (h : Arr w b n f) : Arr w.drew b n f := h
theorem Arr.below {w w' : World} {b n : Nat} {f : Nat → Value} (h : Arr w b n f) (hb : Below w.heap.size w w') : Arr w' b n f :=
  ⟨Nat.lt_of_lt_of_le h.1 hb.size, fun i hi => ⟨by rw [hb.cell (p := ⟨b, i, none⟩) h.1]; exact h.cell hi, by rw [hb.frozen (p := ⟨b, i, none⟩) h.1]; exact h.free hi⟩⟩
theorem Arr.new (w : World) (n : Nat) (v : Value) (t : TypeId) : Arr (w.alloc (.cells (Array.replicate n v) t)) w.heap.size n (fun _ => v) :=
  ⟨by simp, fun i hi => ⟨by rw [World.cell?_alloc_new]; simp [hi], World.frozen?_alloc_new _ _ _ _⟩⟩
theorem Arr.newOf (w : World) (n : Nat) (c : Array Value) (v : Value) (t : TypeId) (e : c = Array.replicate n v) : Arr (w.alloc (.cells c t)) w.heap.size n (fun _ => v) := by
  subst e; exact Arr.new w n v t
theorem Arr.newAt (w : World) (n m : Nat) (c : Array Value) (v : Value) (t : TypeId) (hm : m = w.heap.size) (e : c = Array.replicate n v) : Arr (w.alloc (.cells c t)) m n (fun _ => v) := by
  subst e; subst hm; exact Arr.new w n v t
/-- Flags; numbers. -/
def Flags (w : World) (b n : Nat) (f : Nat → Bool) : Prop := Arr w b n (fun j => .bool (f j))
def Nums (w : World) (b n : Nat) (f : Nat → Int) : Prop := Arr w b n (fun j => .int .i64 (f j))
theorem Flags.set {w : World} {b n : Nat} {f : Nat → Bool} (h : Flags w b n f) {j : Nat} (hj : j < n) : Flags (w.setCell ⟨b, j, none⟩ (.bool true)) b n (fun i => f i || j == i) := by
  refine (Arr.set h hj _).congr fun i _ => ?_
  by_cases e : i = j
  · subst e; simp
  · have : (j == i) = false := by simp; omega
    simp [e, this]
theorem Nums.set {w : World} {b n : Nat} {f : Nat → Int} (h : Nums w b n f) {j : Nat} (hj : j < n) (x : Int) : Nums (w.setCell ⟨b, j, none⟩ (.int .i64 x)) b n (fun i => if i = j then x else f i) := by
  refine (Arr.set h hj _).congr fun i _ => ?_
  by_cases e : i = j <;> simp [e]

theorem bcell {W w1 : World} (hb : Below W.heap.size W w1) : (∀ b o, b < W.heap.size → w1.cell? ⟨b, o, none⟩ = W.cell? ⟨b, o, none⟩) ∧ (∀ b o, b < W.heap.size → w1.frozen? ⟨b, o, none⟩ = W.frozen? ⟨b, o, none⟩) :=
  ⟨fun b o h => hb.cell (p := ⟨b, o, none⟩) h, fun b o h => hb.frozen (p := ⟨b, o, none⟩) h⟩
/-- Two structs of two cells each, boxed; what is read of them later. -/
theorem box2 {w w2 : World} {p q r s : Value} {T T' : TypeId} (hb : Below ((w.alloc (.cells #[p, q] T)).alloc (.cells #[r, s] T')).heap.size ((w.alloc (.cells #[p, q] T)).alloc (.cells #[r, s] T')) w2) :
    w.heap.size + 1 < w2.heap.size ∧ w.heap.size < w2.heap.size ∧
    w2.cell? ⟨w.heap.size, 0, none⟩ = some p ∧ w2.cell? ⟨w.heap.size, 1, none⟩ = some q ∧ w2.cell? ⟨w.heap.size + 1, 0, none⟩ = some r ∧ w2.cell? ⟨w.heap.size + 1, 1, none⟩ = some s := by
  have hz := hb.size
  simp only [World.size_alloc] at hz
  have hc : ∀ b o, b < w.heap.size + 1 + 1 → w2.cell? ⟨b, o, none⟩ = ((w.alloc (.cells #[p, q] T)).alloc (.cells #[r, s] T')).cell? ⟨b, o, none⟩ :=
    fun b o h => hb.cell (p := ⟨b, o, none⟩) (by simpa using h)
  have hn := fun i => World.cell?_alloc_new (w.alloc (.cells #[p, q] T)) #[r, s] T' i
  have ho := fun i => World.cell?_alloc_old (w.alloc (.cells #[p, q] T)) (.cells #[r, s] T') ⟨w.heap.size, i, none⟩ (by simp)
  have hn' := fun i => World.cell?_alloc_new w #[p, q] T i
  simp only [World.size_alloc] at hn
  refine ⟨by omega, by omega, ?_, ?_, ?_, ?_⟩
  · rw [hc _ _ (by omega), ho, hn']; rfl
  · rw [hc _ _ (by omega), ho, hn']; rfl
  · rw [hc _ _ (by omega), hn]; rfl
  · rw [hc _ _ (by omega), hn]; rfl
theorem box1 {w w2 : World} {p q : Value} {T : TypeId} (hb : Below (w.alloc (.cells #[p, q] T)).heap.size (w.alloc (.cells #[p, q] T)) w2) :
    w.heap.size < w2.heap.size ∧ w2.cell? ⟨w.heap.size, 0, none⟩ = some p ∧ w2.cell? ⟨w.heap.size, 1, none⟩ = some q := by
  have hz := hb.size
  simp only [World.size_alloc] at hz
  have hc : ∀ b o, b < w.heap.size + 1 → w2.cell? ⟨b, o, none⟩ = (w.alloc (.cells #[p, q] T)).cell? ⟨b, o, none⟩ :=
    fun b o h => hb.cell (p := ⟨b, o, none⟩) (by simpa using h)
  have hn' := fun i => World.cell?_alloc_new w #[p, q] T i
  refine ⟨by omega, ?_, ?_⟩
  · rw [hc _ _ (by omega), hn']; rfl
  · rw [hc _ _ (by omega), hn']; rfl
theorem below_box (w : World) (o : Obj) : Below w.heap.size w (w.alloc o) := (Below.refl _ _).alloc (Nat.le_refl _) _
theorem below_boxD (w : World) (o : Obj) (n : Nat) : Below w.heap.size w ((w.alloc o).drewN n) := below_drewN (below_box w o) n
theorem below_boxDD (w : World) (o : Obj) (n m : Nat) : Below w.heap.size w (((w.alloc o).drewN n).drewN m) := below_drewN (below_boxD w o n) m
theorem below_D (w : World) (n : Nat) : Below w.heap.size w (w.drewN n) := below_drewN (Below.refl _ _) n

theorem ret_tup2 {a b c d : Value} (h1 : a = c) (h2 : b = d) : Ending.returned (.tuple #[a, b]) = .returned (.tuple #[c, d]) := by rw [h1, h2]

theorem ret_bool {a b : Bool} (h : a = b) : Ending.returned (.bool a) = .returned (.bool b) := by rw [h]
theorem ret_int {k : IntKind} {a b : Int} (h : a = b) : Ending.returned (.int k a) = .returned (.int k b) := by rw [h]

end Go.Proofs.YtdbfpdhcaiiiaaaDoor

namespace Go.Proofs.YtdbfpdhcaiiiaaaDoor
open Go.RowKit

/-- The ints as cells. -/
def cellsOf (xs : List Int) : List Value := xs.map (Value.int .i64)
theorem cellsOf_len (xs : List Int) : (cellsOf xs).length = xs.length := by simp [cellsOf]
theorem cellsOf_snoc (xs : List Int) (x : Int) : cellsOf (xs ++ [x]) = cellsOf xs ++ [.int .i64 x] := by simp [cellsOf]
/-- v is nil or a row of the call's own, from block base on; it reads as xs. -/
def Own (w : World) (base : Nat) (t : TypeId) (v : Value) (xs : List Int) : Prop := w.ownsRow base t 1 v xs.length (cellsOf xs)
theorem own_nil (w : World) (base : Nat) (t : TypeId) : Own w base t (.slice none 0 0) [] := World.ownsRow_nil w base t 1
theorem Own.intsAt {w : World} {base : Nat} {t : TypeId} {v : Value} {xs : List Int} (h : Own w base t v xs) (hl : xs.length ≤ 9223372036854775807) : IntsAt w v xs := by
  obtain ⟨h1, h2⟩ := h
  rcases h2 with ⟨rfl, hn⟩ | ⟨g, cap, cur, rfl, hg, hh, hc, hm, hs, ht⟩
  · obtain rfl : xs = [] := List.eq_nil_of_length_eq_zero hn
    exact intsAt_nil w
  · unfold maxLen at hm
    refine ⟨some ⟨g, 0, none⟩, cap, rfl, hc, by omega, (fun h => by cases h), fun i hi => ⟨g, 0, rfl, (Array.getElem?_eq_some_iff.1 hh).1, fun j hj => ?_⟩⟩
    rw [Nat.zero_add, cell_of_row w g j cur t (0, 0) hh]
    have e : (cur.toList.take (xs.length * 1))[j]? = (cellsOf xs)[j]? := by rw [ht]
    rw [List.getElem?_take_of_lt (by omega)] at e
    rw [← Array.getElem?_toList, e]
    simp [cellsOf, ix, hj]
theorem Own.shape {w : World} {base : Nat} {t : TypeId} {v : Value} {xs : List Int} (h : Own w base t v xs) : ∃ a l c, v = .slice a l c := by
  rcases h.2 with ⟨rfl, _⟩ | ⟨g, cap, cur, rfl, _⟩
  · exact ⟨_, _, _, rfl⟩
  · exact ⟨_, _, _, rfl⟩
theorem Own.alloc {w : World} {base : Nat} {t : TypeId} {v : Value} {xs : List Int} (h : Own w base t v xs) (o : Obj) : Own (w.alloc o) base t v xs := World.ownsRow.alloc h o
theorem Own.setFar {w : World} {base : Nat} {t : TypeId} {v : Value} {xs : List Int} (h : Own w base t v xs) {a : Addr} (ha : a.block < base) (u : Value) : Own (w.setCell a u) base t v xs := ownsRow_setCell_below h ha u
theorem Own.drewN {w : World} {base : Nat} {t : TypeId} {v : Value} {xs : List Int} (h : Own w base t v xs) (n : Nat) : Own (w.drewN n) base t v xs := h
theorem Own.drew {w : World} {base : Nat} {t : TypeId} {v : Value} {xs : List Int} (h : Own w base t v xs) : Own w.drew base t v xs := h
theorem Own.block {w : World} {base : Nat} {t : TypeId} {v : Value} {xs : List Int} (h : Own w base t v xs) : ∀ k, v.ownBlock = some k → base ≤ k ∧ k < w.heap.size := World.ownsRow.lt h
theorem Own.base {w : World} {base base' : Nat} {t : TypeId} {v : Value} {xs : List Int} (h : Own w base t v xs) (hb : base' ≤ base) : Own w base' t v xs := by
  obtain ⟨h1, h2⟩ := h
  refine ⟨h1, ?_⟩
  rcases h2 with h2 | ⟨g, cap, cur, e, hg, r⟩
  · exact .inl h2
  · exact .inr ⟨g, cap, cur, e, by omega, r⟩
/-- A cell of another block than the row's, behind an append. -/
theorem far_cell {w w' : World} {v : Value} (hg : w.grownBy w' v.ownBlock) {base : Nat} (hb : ∀ k, v.ownBlock = some k → base ≤ k) {b o : Nat} (hl : b < base) (hz : b < w.heap.size) :
    w'.cell? ⟨b, o, none⟩ = w.cell? ⟨b, o, none⟩ ∧ w'.frozen? ⟨b, o, none⟩ = w.frozen? ⟨b, o, none⟩ := by
  have hne : some b ≠ v.ownBlock := fun e => by have := hb b e.symm; omega
  exact ⟨hg.cell_far ⟨b, o, none⟩ hz hne, hg.frozen_far ⟨b, o, none⟩ hz hne⟩
theorem below_grown {w w' : World} {v : Value} (hg : w.grownBy w' v.ownBlock) {B : Nat} (hb : ∀ k, v.ownBlock = some k → B ≤ k) (hz : B ≤ w.heap.size) : Below B w w' :=
  (Below.refl B w).grown hg hz hb

theorem info_int : (Tryd.prog.info? 3).map (fun i => (i.zero, i.size, i.bytes)) = some (some (.int .i64 0), 1, 8) := by kernel_rfl

theorem info_bool : (Tryd.prog.info? 4).map (fun i => (i.zero, i.size, i.bytes)) = some (some (.bool false), 1, 1) := by kernel_rfl
theorem madeCells_one (z : Value) (n : Nat) : madeCells #[z] n = Array.replicate n z := by
  apply Array.ext
  · simp [madeCells]
  · intro i h1 h2
    simp [madeCells, Nat.mod_one]
/-- A slice of flags that was just made. -/
theorem flags_of_made {w : World} {base g n : Nat} {t : TypeId} (h : w.ownsRow base t 1 (.slice (some ⟨g, 0, none⟩) n n) n (madeCells #[Value.bool false] (n * 1)).toList) : Flags w g n (fun _ => false) := by
  rcases h.2 with ⟨e, _⟩ | ⟨g', cap, cur, e, hg, hh, hc, hm, hs, ht⟩
  · cases e
  · injection e with e1 e2 e3
    injection e1 with e1
    injection e1 with e1 _ _
    subst e1
    refine ⟨(Array.getElem?_eq_some_iff.1 hh).1, fun j hj => ⟨?_, by simp [World.frozen?, hh]⟩⟩
    rw [cell_of_row w g j cur t (0, 0) hh]
    have e4 : (cur.toList.take (n * 1))[j]? = ((madeCells #[Value.bool false] (n * 1)).toList)[j]? := by rw [ht]
    rw [List.getElem?_take_of_lt (by omega), madeCells_one] at e4
    rw [← Array.getElem?_toList, e4]
    simp [hj]

theorem news_one {w : World} {g : Nat} {y : Value} (hc : w.cell? ⟨g, 0, none⟩ = some y) : ∀ j u, [y][j]? = some u → w.cell? ((⟨g, 0, none⟩ : Addr).add j) = some u := by
  intro j u hu
  rcases j with _ | j
  · simp at hu; subst hu; exact hc
  · simp at hu
/-- append of one int to a slice of the call's own, outside regions that draw. -/
theorem app_own {ops : Array Oper} {rest : List Oper} {o : Oper} {a : Act} {w : World} {Q : Exit → Act → World → Prop} (hgd : o.guard = none) (s x : Operand)
    (ho : o.op = .call { callee := .builtin .append, args := #[s, x], argTypes := #[22, 22] }) {base : Nat} {v : Value} {xs : List Int} (hs : a.eval s = v) (hown : Own w base 3 v xs)
    (g : Nat) (y : Int) (hx : a.eval x = .slice (some ⟨g, 0, none⟩) 1 1) (hc : w.cell? ⟨g, 0, none⟩ = some (.int .i64 y)) (hl : xs.length < 1000000000) (hb : base ≤ w.heap.size)
    (h : ∀ v' w', Own w' base 3 v' (xs ++ [y]) → w.grownBy w' v.ownBlock → wpList Tryd.prog ops Q rest (a.put o.dst v') w') : wpList Tryd.prog ops Q (o :: rest) a w := by
  obtain ⟨i0, hi0, hz0, hz1, hz2⟩ := info_parts info_int
  refine wpList_append_own w hgd s x 22 ho base 3 i0 _ 1 8 Tryd.underlying22 hi0 hz0 hz1 hz2 rfl (by omega) v xs.length (cellsOf xs) hs hown ⟨g, 0, none⟩ 1 1 [.int .i64 y] hx rfl (news_one hc) (by simp [Value.oneCell'])
    (by unfold maxLen; omega) (by omega) hb ?_
  intro v' w' h1 h2 _
  refine h v' w' ?_ h2
  unfold Own
  rw [cellsOf_snoc, List.length_append]
  exact h1

end Go.Proofs.YtdbfpdhcaiiiaaaDoor

namespace Go.Proofs.YtdbfpdhcaiiiaaaDoor
open Go.RowKit Go.Sort

/-- Sorted. -/
def sortI (xs : List Int) : List Int := xs.mergeSort fun x y => decide (x ≤ y)
theorem sortI_perm (xs : List Int) : (sortI xs).Perm xs := List.mergeSort_perm _ _
theorem sortI_len (xs : List Int) : (sortI xs).length = xs.length := (sortI_perm xs).length_eq
theorem sortI_mem {xs : List Int} {x : Int} : x ∈ sortI xs ↔ x ∈ xs := (sortI_perm xs).mem_iff
theorem sortI_le (xs : List Int) : (sortI xs).Pairwise (· ≤ ·) := by
  have h := List.pairwise_mergeSort (le := fun x y : Int => decide (x ≤ y)) (fun a b c h1 h2 => by simp at h1 h2 ⊢; omega) (fun a b => by simp; omega) xs
  exact h.imp (fun h => by simpa using h)
theorem sortI_lt {xs : List Int} (h : xs.Nodup) : (sortI xs).Pairwise (· < ·) := by
  have h1 := sortI_le xs
  have h2 : (sortI xs).Nodup := (sortI_perm xs).nodup_iff.2 h
  exact (List.Pairwise.and h1 h2).imp (fun h => by omega)
theorem sort_own {base : Nat} {v : Value} {xs : List Int} {w : World} (h : Own w base 3 v xs) (hl : xs.length < 1000000000) :
    Calls Tryd.prog 38 #[v] w fun e w' => e = .returned (.tuple #[]) ∧ Own w' base 3 v (sortI xs) ∧ w.grownBy w' v.ownBlock := by
  have h0 := h
  rcases h.2 with ⟨rfl, hn⟩ | ⟨g, cap, cur, rfl, hg, hh, hc, hm, hs, ht⟩
  · obtain rfl : xs = [] := List.eq_nil_of_length_eq_zero hn
    refine (Tryd.slices_Sort_int_none none 0 w).mono ?_
    rintro e w' ⟨rfl, rfl⟩
    refine ⟨rfl, ?_, ⟨rfl, rfl, rfl, Nat.le_refl _, fun _ _ _ => rfl⟩⟩
    have : sortI [] = [] := List.eq_nil_of_length_eq_zero (sortI_len [])
    rw [this]; exact h0
  · rw [Nat.mul_one] at ht
    have hH := holds_of_blockI hh ht
    refine (Tryd.slices_Sort_int g 0 cap xs w hH (Array.getElem?_eq_some_iff.1 hh).1 (by omega)).mono ?_
    rintro e w' ⟨rfl, n, os, rfl⟩
    refine ⟨rfl, ?_, grownBy_sortedI _⟩
    unfold Own
    rw [sortI_len]
    exact ownsRow_sortedI (sortI_len xs) hg hh hc hm hs
end Go.Proofs.YtdbfpdhcaiiiaaaDoor

namespace Go.Proofs.YtdbfpdhcaiiiaaaDoor
open Go.RowKit

def mem (xs : List Int) (x : Int) : Bool := xs.contains x
theorem take_succ_ix {xs : List Int} {k : Nat} (h : k < xs.length) : xs.take (k + 1) = xs.take k ++ [ix xs k] := by
  rw [ix_lt h, List.take_succ_eq_append_getElem h]
theorem mem_snoc (xs : List Int) (y x : Int) : mem (xs ++ [y]) x = (mem xs x || y == x) := by
  unfold mem; rw [List.contains_eq_mem, List.contains_eq_mem]; simp only [List.mem_append, List.mem_singleton, Bool.decide_or, Bool.beq_eq_decide_eq]; congr 1; simp [eq_comm]
theorem mem_take {xs : List Int} {k : Nat} (x : Int) (h : k < xs.length) : mem (xs.take (k + 1)) x = (mem (xs.take k) x || ix xs k == x) := by
  rw [take_succ_ix h, mem_snoc]
theorem mem_of_hit {xs : List Int} {k : Nat} {x : Int} (h : k < xs.length) (e : (ix xs k == x) = true) : mem xs x = true := by
  unfold mem; rw [List.contains_eq_mem]; simp at e ⊢; rw [← e]; exact ix_mem h
theorem mem_iff (xs : List Int) (x : Int) : mem xs x = true ↔ x ∈ xs := by unfold mem; simp

/-- Does one of some numbers meet p? -/
def anyB (p : Int → Bool) (xs : List Int) : Bool := xs.any p
/-- The first place at which p is met; -1: none. -/
def findI (p : Int → Bool) (xs : List Int) : Int := if anyB p xs then (xs.findIdx p : Int) else -1
theorem any_take {p : Int → Bool} {xs : List Int} {k : Nat} (h : k < xs.length) : anyB p (xs.take (k + 1)) = (anyB p (xs.take k) || p (ix xs k)) := by
  unfold anyB; rw [take_succ_ix h, List.any_append]; simp
theorem any_of_hit {p : Int → Bool} {xs : List Int} {k : Nat} (h : k < xs.length) (e : p (ix xs k) = true) : anyB p xs = true := by
  unfold anyB; rw [List.any_eq_true]; exact ⟨_, ix_mem h, e⟩
theorem findI_hit {p : Int → Bool} {xs : List Int} {k : Nat} (h : k < xs.length) (hn : anyB p (xs.take k) = false) (e : p (ix xs k) = true) : findI p xs = k := by
  unfold findI
  rw [if_pos (any_of_hit h e)]
  congr 1
  refine (List.findIdx_eq h).2 ⟨by rw [← ix_lt h]; exact e, fun j hj => ?_⟩
  unfold anyB at hn
  rw [List.any_eq_false] at hn
  have := hn xs[j] (by rw [List.mem_take_iff_getElem]; exact ⟨j, by omega, rfl⟩)
  simpa using this
theorem findI_none {p : Int → Bool} {xs : List Int} (h : anyB p xs = false) : findI p xs = -1 := by unfold findI; rw [h]; rfl
theorem findI_pos (p : Int → Bool) (xs : List Int) : decide (0 ≤ findI p xs) = anyB p xs := by
  unfold findI
  cases anyB p xs <;> simp

def dv (i n : Nat) : Nat := i / n
def md (i n : Nat) : Nat := i % n
theorem wrap_dv {i n : Nat} (h : i ≤ 9223372036854775807) : wrap64 ((i : Int) / (n : Int)) = ((dv i n : Nat) : Int) := by
  rw [← Int.natCast_ediv]; unfold dv
  have : i / n ≤ i := Nat.div_le_self _ _
  generalize i / n = q at *
  exact IntWalk.wrap64_in _ ⟨by omega, by omega⟩

/-- Do places i and k of rows of n clash? -/
def clash (n : Nat) (xs : List Int) (i k : Nat) : Bool := ix xs i == ix xs k && (dv i n == dv k n || (i : Int) % n == (k : Int) % n)
def clashRow (n : Nat) (xs : List Int) (i : Nat) : Nat → Bool
  | 0 => false
  | m + 1 => clashRow n xs i m || clash n xs i m
def clashTo (n : Nat) (xs : List Int) : Nat → Bool
  | 0 => false
  | m + 1 => clashTo n xs m || clashRow n xs m m
def onceB (n : Nat) (xs : List Int) : Bool := !clashTo n xs xs.length

theorem clashRow_hit {n : Nat} {xs : List Int} {i k m : Nat} (h : k < m) (e : clash n xs i k = true) : clashRow n xs i m = true := by
  induction m with
  | zero => omega
  | succ m ih =>
    rw [clashRow]
    by_cases hk : k = m
    · subst hk; simp [e]
    · simp [ih (by omega)]
theorem clashTo_hit {n : Nat} {xs : List Int} {i m : Nat} (h : i < m) (e : clashRow n xs i i = true) : clashTo n xs m = true := by
  induction m with
  | zero => omega
  | succ m ih =>
    rw [clashTo]
    by_cases hk : i = m
    · subst hk; simp [e]
    · simp [ih (by omega)]
theorem once_hit2 {n : Nat} {xs : List Int} {i : Nat} (hi : i < xs.length) (e : clashRow n xs i i = true) : (!onceB n xs) = true := by
  rw [onceB, clashTo_hit hi e]; rfl
theorem once_hit {n : Nat} {xs : List Int} {i k : Nat} (h : k < i) (hi : i < xs.length) (e : clash n xs i k = true) : onceB n xs = false := by
  rw [onceB, clashTo_hit hi (clashRow_hit h e)]; rfl

theorem clash_way (n : Nat) (xs : List Int) (i k : Nat) :
    ((ix xs i == ix xs k) = false ∧ clash n xs i k = false) ∨
    ((ix xs i == ix xs k) = true ∧ ((dv i n : Int) == (dv k n : Int)) = true ∧ clash n xs i k = true) ∨
    ((ix xs i == ix xs k) = true ∧ ((dv i n : Int) == (dv k n : Int)) = false ∧ ((i : Int) % n == (k : Int) % n) = true ∧ clash n xs i k = true) ∨
    ((ix xs i == ix xs k) = true ∧ ((dv i n : Int) == (dv k n : Int)) = false ∧ ((i : Int) % n == (k : Int) % n) = false ∧ clash n xs i k = false) := by
  have e : ((dv i n : Int) == (dv k n : Int)) = (dv i n == dv k n) := by
    rw [Bool.eq_iff_iff]; simp only [beq_iff_eq]; omega
  unfold clash
  rw [e]
  cases (ix xs i == ix xs k) <;> cases (dv i n == dv k n) <;> cases ((i : Int) % n == (k : Int) % n) <;> simp

theorem wrap_sq {s : Int} (h1 : 1 ≤ s) (h2 : s ≤ 64) : wrap64 (s * s) = s * s := by
  obtain ⟨n, rfl⟩ := Int.eq_ofNat_of_zero_le (show 0 ≤ s by omega)
  have h3 : n * n ≤ 64 * 64 := Nat.mul_le_mul (by omega) (by omega)
  have : (n : Int) * (n : Int) = ((n * n : Nat) : Int) := by simp
  rw [this]
  generalize n * n = q at *
  exact IntWalk.wrap64_in _ ⟨by omega, by omega⟩

/-- Is one of the first m cells no number of this side? -/
def badTo (side : Int) (xs : List Int) : Nat → Bool
  | 0 => false
  | m + 1 => badTo side xs m || decide (ix xs m < 0 ∨ side ≤ ix xs m)
theorem bad_any (side : Int) (xs : List Int) : badTo side xs xs.length = xs.any (fun c => decide (c < 0 ∨ side ≤ c)) := by
  have : ∀ m, m ≤ xs.length → badTo side xs m = (xs.take m).any (fun c => decide (c < 0 ∨ side ≤ c)) := by
    intro m
    induction m with
    | zero => intro _; simp [badTo]
    | succ m ih => intro h; rw [badTo, ih (by omega), take_succ_ix (by omega), List.any_append]; simp
  rw [this _ (Nat.le_refl _), List.take_length]
theorem bad_hit {side : Int} {xs : List Int} {k m : Nat} (h : k < m) (e : ix xs k < 0 ∨ side ≤ ix xs k) : badTo side xs m = true := by
  induction m with
  | zero => omega
  | succ m ih =>
    rw [badTo]
    by_cases hk : k = m
    · subst hk; simp [e]
    · simp [ih (by omega)]

/-- Which places of a table of eight by eight are marked behind k cells: by rows, by columns. -/
def rowSeen (n : Nat) (xs : List Int) : Nat → Nat → Bool
  | 0, _ => false
  | k + 1, j => rowSeen n xs k j || dv k n * 8 + (ix xs k).toNat == j
def colSeen (n : Nat) (xs : List Int) : Nat → Nat → Bool
  | 0, _ => false
  | k + 1, j => colSeen n xs k j || md k n * 8 + (ix xs k).toNat == j

theorem seen_clash {n : Nat} {xs : List Int} (m : Nat) (hx : ∀ k, k < xs.length → 0 ≤ ix xs k ∧ ix xs k < 8) (hm : m < xs.length) :
    ∀ k, k ≤ m → (rowSeen n xs k (dv m n * 8 + (ix xs m).toNat) || colSeen n xs k (md m n * 8 + (ix xs m).toNat)) = clashRow n xs m k := by
  intro k
  induction k with
  | zero => intro _; rfl
  | succ k ih =>
    intro hk
    rw [clashRow, ← ih (by omega), rowSeen, colSeen]
    have e : (clash n xs m k) = ((dv k n * 8 + (ix xs k).toNat == dv m n * 8 + (ix xs m).toNat) || (md k n * 8 + (ix xs k).toNat == md m n * 8 + (ix xs m).toNat)) := by
      have h1 := hx k (by omega)
      have h2 := hx m hm
      have e3 : ((m : Int) % n == (k : Int) % n) = (md m n == md k n) := by
        rw [Bool.eq_iff_iff]; unfold md; simp only [beq_iff_eq]; omega
      unfold clash
      rw [e3]
      generalize dv k n = d1; generalize dv m n = d2; generalize md k n = q1; generalize md m n = q2
      generalize ix xs k = x1 at *; generalize ix xs m = x2 at *
      rw [Bool.eq_iff_iff]
      simp only [Bool.and_eq_true, Bool.or_eq_true, beq_iff_eq]
      omega
    rw [e]
    generalize rowSeen n xs k _ = r1; generalize colSeen n xs k _ = r2
    cases r1 <;> cases r2 <;> simp

/-- What is wrong with a square of this side and these cells. -/
def latinFault (side : Int) (xs : List Int) : Int :=
  if side < 1 ∨ 8 < side then 1 else if (xs.length : Int) ≠ side * side then 2
  else if xs.any (fun c => decide (c < 0 ∨ side ≤ c)) then 1 else if onceB side.toNat xs then 0 else 6

/-- What a square without fault is. -/
structure IsLatin (side : Int) (xs : List Int) : Prop where
  lo : 1 ≤ side
  hi : side ≤ 8
  len : (xs.length : Int) = side * side
  rng : ∀ k, k < xs.length → 0 ≤ ix xs k ∧ ix xs k < side
  one : onceB side.toNat xs = true
theorem latin_of {side : Int} {xs : List Int} (h : latinFault side xs = 0) : IsLatin side xs := by
  unfold latinFault at h
  split at h
  · exact absurd h (by decide)
  · split at h
    · exact absurd h (by decide)
    · split at h
      · exact absurd h (by decide)
      · split at h
        · rename_i h1 h2 h3 h4
          refine ⟨by omega, by omega, by simpa using h2, fun k hk => ?_, h4⟩
          have := List.any_eq_false.1 (Bool.eq_false_iff.2 h3) _ (ix_mem hk)
          simp at this
          omega
        · exact absurd h (by decide)
theorem IsLatin.fault {side : Int} {xs : List Int} (h : IsLatin side xs) : latinFault side xs = 0 := by
  unfold latinFault
  rw [if_neg (by have := h.lo; have := h.hi; omega), if_neg (by simpa using h.len), if_neg, if_pos h.one]
  simp only [List.any_eq_true, decide_eq_true_eq, not_exists, not_and]
  intro x hx
  obtain ⟨k, hk, rfl⟩ := List.getElem_of_mem hx
  have := h.rng k hk
  rw [ix_lt hk] at this
  omega

/-- Do two squares have one pair at two places? -/
def pair2 (xs ys : List Int) (i k : Nat) : Bool := ix xs i == ix xs k && ix ys i == ix ys k
def pairRow (xs ys : List Int) (i : Nat) : Nat → Bool
  | 0 => false
  | m + 1 => pairRow xs ys i m || pair2 xs ys i m
def pairTo (xs ys : List Int) : Nat → Bool
  | 0 => false
  | m + 1 => pairTo xs ys m || pairRow xs ys m m
def orthB (xs ys : List Int) : Bool := !pairTo xs ys xs.length
theorem pairRow_hit {xs ys : List Int} {i k m : Nat} (h : k < m) (e : pair2 xs ys i k = true) : pairRow xs ys i m = true := by
  induction m with
  | zero => omega
  | succ m ih =>
    rw [pairRow]
    by_cases hk : k = m
    · subst hk; simp [e]
    · simp [ih (by omega)]
theorem pairTo_hit {xs ys : List Int} {i m : Nat} (h : i < m) (e : pairRow xs ys i i = true) : pairTo xs ys m = true := by
  induction m with
  | zero => omega
  | succ m ih =>
    rw [pairTo]
    by_cases hk : i = m
    · subst hk; simp [e]
    · simp [ih (by omega)]
theorem orth_hit {xs ys : List Int} {i k : Nat} (h : k < i) (hi : i < xs.length) (e : pair2 xs ys i k = true) : orthB xs ys = false := by
  rw [orthB, pairTo_hit hi (pairRow_hit h e)]; rfl
theorem orth_hit2 {xs ys : List Int} {i : Nat} (hi : i < xs.length) (e : pairRow xs ys i i = true) : orthB xs ys = false := by
  rw [orthB, pairTo_hit hi e]; rfl
/-- The marks of pairs in a table of eight by eight. -/
def pairSeen (xs ys : List Int) : Nat → Nat → Bool
  | 0, _ => false
  | k + 1, j => pairSeen xs ys k j || (ix xs k).toNat * 8 + (ix ys k).toNat == j
theorem pairSeen_row {xs ys : List Int} (m : Nat) (hx : ∀ k, k ≤ m → 0 ≤ ix xs k ∧ ix xs k < 8) (hy : ∀ k, k ≤ m → 0 ≤ ix ys k ∧ ix ys k < 8) :
    ∀ k, k ≤ m → pairSeen xs ys k ((ix xs m).toNat * 8 + (ix ys m).toNat) = pairRow xs ys m k := by
  intro k
  induction k with
  | zero => intro _; rfl
  | succ k ih =>
    intro hk
    rw [pairRow, ← ih (by omega), pairSeen]
    have h1 := hx k (by omega)
    have h2 := hx m (by omega)
    have h3 := hy k (by omega)
    have h4 := hy m (by omega)
    congr 1
    unfold pair2
    generalize ix xs k = x1 at *; generalize ix xs m = x2 at *; generalize ix ys k = y1 at *; generalize ix ys m = y2 at *
    rw [Bool.eq_iff_iff]
    simp only [Bool.and_eq_true, beq_iff_eq]
    omega
theorem pair_way (xs ys : List Int) (i k : Nat) :
    ((ix xs i == ix xs k) = false ∧ pair2 xs ys i k = false) ∨
    ((ix xs i == ix xs k) = true ∧ (ix ys i == ix ys k) = true ∧ pair2 xs ys i k = true) ∨
    ((ix xs i == ix xs k) = true ∧ (ix ys i == ix ys k) = false ∧ pair2 xs ys i k = false) := by
  unfold pair2
  cases (ix xs i == ix xs k) <;> cases (ix ys i == ix ys k) <;> simp

/-- What is wrong with two squares together. -/
def orthFault (s : Int) (xs : List Int) (t : Int) (ys : List Int) : Int :=
  if latinFault s xs ≠ 0 then latinFault s xs else if latinFault t ys ≠ 0 then latinFault t ys else if s ≠ t then 2 else 0

end Go.Proofs.YtdbfpdhcaiiiaaaDoor

namespace Go.Proofs.YtdbfpdhcaiiiaaaDoor
open Go.RowKit

/-- A part of a slice of ints. -/
def sliv (a : Option Addr) (l h m : Nat) : Value := sliced a l h m 1
theorem size_int (w : World) : (Go.sizeOf (Tryd.prog.elem 22)).run Tryd.prog w = .ok 1 w := by kernel_rfl
theorem und_ints : Tryd.prog.underlying 22 = some (.slice (Tryd.prog.elem 22)) := by kernel_rfl
theorem run_tail (w : World) (a : Option Addr) (n c l : Nat) (hl : l ≤ n) :
    (Instr.slice 22 (.slice a n c) (some (.int .i64 (l : Int))) none none).run Tryd.prog w = .ok (sliv a l n c) w := by
  rw [run_slice_l w 22 a n c und_ints .i64 l (by omega) (by omega), size_int]
  simp [Result.andThen, sliv]
theorem run_mid (w : World) (a : Option Addr) (n c l h : Nat) (hl : l ≤ h) (hh : h ≤ c) :
    (Instr.slice 22 (.slice a n c) (some (.int .i64 (l : Int))) (some (.int .i64 (h : Int))) none).run Tryd.prog w = .ok (sliv a l h c) w := by
  rw [run_slice_lh w 22 a n c und_ints .i64 .i64 l h (by omega) (by omega) (by omega), size_int]
  simp [Result.andThen, sliv]
theorem run_full (w : World) (a : Option Addr) (n c : Nat) (hn : n ≤ c) :
    (Instr.slice 22 (.slice a n c) none (some (.int .i64 (n : Int))) (some (.int .i64 (n : Int)))).run Tryd.prog w = .ok (.slice a n n) w := by
  rw [run_slice_hm w 22 a n c und_ints .i64 .i64 n n (by omega) (by omega) (by omega), size_int]
  cases a with
  | none => simp [Result.andThen, sliced]
  | some p => cases p; simp [Result.andThen, sliced, Addr.add]

theorem ix_drop (xs : List Int) (l i : Nat) : ix (xs.drop l) i = ix xs (l + i) := by
  unfold ix; rw [List.getD_eq_getElem?_getD, List.getD_eq_getElem?_getD, List.getElem?_drop]
theorem ix_take {xs : List Int} {h i : Nat} (hi : i < h) : ix (xs.take h) i = ix xs i := by
  unfold ix; rw [List.getD_eq_getElem?_getD, List.getD_eq_getElem?_getD, List.getElem?_take_of_lt hi]
theorem intsAt_sliv {w : World} {a : Option Addr} {c : Nat} {xs : List Int} (H : IntsAt w (.slice a xs.length c) xs) {l h : Nat} (hl : l ≤ h) (hh : h ≤ xs.length) :
    IntsAt w (sliv a l h c) ((xs.take h).drop l) := by
  obtain ⟨a', c', e, h2, h3, h4, h5⟩ := H
  injection e with e1 e2 e3
  subst e1; subst e3
  have hlen : ((xs.take h).drop l).length = h - l := by simp; omega
  unfold sliv sliced
  refine ⟨_, c - l, by rw [hlen], by rw [hlen]; omega, by omega, fun hn => ?_, fun i hi => ?_⟩
  · by_cases e : c = l
    · omega
    · rw [if_neg e] at hn
      cases a with
      | none => have := h4 rfl; omega
      | some p => cases hn
  · rw [hlen] at hi
    obtain ⟨b, o, rfl, hb, hc⟩ := h5 l (by omega)
    refine ⟨b, o + l, ?_, hb, fun j hj => ?_⟩
    · rw [if_neg (by omega)]; simp [Addr.add]
    · rw [hlen] at hj
      rw [ix_drop, ix_take (by omega), Nat.add_assoc]
      exact hc (l + j) (by omega)

/-- A slice's block is B or a later one. -/
def FarV (B : Nat) : Value → Prop
  | .slice (some p) _ _ => B ≤ p.block
  | _ => True
theorem IntsAt.setFar {w : World} {v : Value} {xs : List Int} (h : IntsAt w v xs) {B : Nat} (hf : FarV B v) {p : Addr} (hp : p.block < B) (x : Value) : IntsAt (w.setCell p x) v xs := by
  obtain ⟨a, c, rfl, h2, h3, h4, h5⟩ := h
  refine ⟨a, c, rfl, h2, h3, h4, fun i hi => ?_⟩
  obtain ⟨b, o, rfl, hb, hc⟩ := h5 i hi
  have hB : B ≤ (⟨b, o, none⟩ : Addr).block := hf
  refine ⟨b, o, rfl, by rw [World.size_setCell]; exact hb, fun j hj => ?_⟩
  rw [World.cell?_setCell_other _ _ _ _ (by intro e; have e2 := congrArg Addr.block e; dsimp only at e2 hB; omega)]
  exact hc j hj
theorem Own.far {w : World} {base : Nat} {t : TypeId} {v : Value} {xs : List Int} (h : Own w base t v xs) {B : Nat} (hB : B ≤ base) : FarV B v := by
  rcases h.2 with ⟨rfl, _⟩ | ⟨g, cap, cur, rfl, hg, _⟩
  · exact trivial
  · show B ≤ g; omega
theorem IntsAt.capLe {w : World} {a : Option Addr} {n c : Nat} {xs : List Int} (h : IntsAt w (.slice a n c) xs) : xs.length ≤ c := by
  obtain ⟨a', c', e, h2, _⟩ := h
  injection e with _ _ e3
  rw [e3]; exact h2

set_option maxRecDepth 100000 in
/-- append of one int to a slice whose capacity is its length. -/
theorem app_full {ops : Array Oper} {rest : List Oper} {o : Oper} {a : Act} {w : World} {Q : Exit → Act → World → Prop} (hgd : o.guard = none) (s x : Operand)
    (ho : o.op = .call { callee := .builtin .append, args := #[s, x], argTypes := #[22, 22] }) {a0 : Option Addr} {c : Nat} {xs : List Int} (hs : a.eval s = .slice a0 xs.length xs.length) (hI : IntsAt w (.slice a0 xs.length c) xs)
    (g : Nat) (y : Int) (hx : a.eval x = .slice (some ⟨g, 0, none⟩) 1 1) (hc : w.cell? ⟨g, 0, none⟩ = some (.int .i64 y)) (hl : xs.length < 1000000000)
    (h : ∀ v' w', Own w' w.heap.size 3 v' (xs ++ [y]) → w.grownBy w' none → wpList Tryd.prog ops Q rest (a.put o.dst v') w') : wpList Tryd.prog ops Q (o :: rest) a w := by
  obtain ⟨i0, hi0, hz0, hz1, hz2⟩ := info_parts info_int
  obtain ⟨a', c', e, h2, h3, h4, h5⟩ := hI
  injection e with e1 e2 e3
  subst e1; subst e3
  refine wpList_append_grows w hgd s x 22 ho 3 i0 _ 1 8 Tryd.underlying22 hi0 hz0 hz1 hz2 rfl (by omega) a0 xs.length xs.length (cellsOf xs) hs
    (fun hn => by have := h4 hn; omega) (by rw [cellsOf_len]; omega) (fun p hp j u hu => ?_) ⟨g, 0, none⟩ 1 1 [.int .i64 y] hx rfl (news_one hc) (by simp [Value.oneCell']) (by omega) (by unfold maxLen; omega) (by omega) ?_
  · have hj : j < xs.length := by
      have := List.getElem?_eq_some_iff.1 hu
      obtain ⟨q, _⟩ := this
      rw [cellsOf_len] at q; exact q
    obtain ⟨b, o, rfl, hb, hc'⟩ := h5 j hj
    injection hp with hp
    subst hp
    rw [Addr.add_lit]
    rw [hc' j hj]
    unfold cellsOf at hu
    rw [List.getElem?_map, List.getElem?_eq_getElem hj] at hu
    rw [ix_lt hj]; exact hu
  · intro v' w' h1 h2
    refine h v' w' ?_ h2
    unfold Own
    rw [cellsOf_snoc, List.length_append]
    exact h1

theorem any_mem (x : Int) (xs : List Int) : anyB (fun y => x == y) xs = mem xs x := by
  unfold anyB mem
  rw [Bool.eq_iff_iff]
  simp only [List.any_eq_true, beq_iff_eq, List.contains_iff_mem]
  constructor
  · rintro ⟨y, hy, rfl⟩; exact hy
  · intro h; exact ⟨x, h, rfl⟩
end Go.Proofs.YtdbfpdhcaiiiaaaDoor
