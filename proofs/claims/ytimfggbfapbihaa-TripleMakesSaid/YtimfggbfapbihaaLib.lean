/-
  What a slice of ints, and a slice of such slices, reads as in a world; how that lasts while memory is made. No condition.
-/
import Derived.WalkKit
import Derived.WalkSpells
import Derived.WalkLawsBesides
import Derived.IntWalk
import Derived.BigQuiet
import Derived.Deep.QuietTactic
import Derived.Lib.Hide
namespace Go.Proofs.Ytimfggbfapbihaa
open Go.RowKit

/-- Element i of a list of ints (behind a plain name, so that the walk leaves it alone). -/
def ix (xs : List Int) (i : Nat) : Int := xs.getD i 0
/-- Element i of a list of rows. -/
def rx (xss : List (List Int)) (i : Nat) : List Int := xss.getD i []

theorem ix_lt {xs : List Int} {i : Nat} (h : i < xs.length) : ix xs i = xs[i] := by simp [ix, h]
theorem ix_mem {xs : List Int} {i : Nat} (h : i < xs.length) : ix xs i ∈ xs := by rw [ix_lt h]; exact List.getElem_mem h
theorem rx_lt {xss : List (List Int)} {i : Nat} (h : i < xss.length) : rx xss i = xss[i] := by simp [rx, h]
theorem rx_mem {xss : List (List Int)} {i : Nat} (h : i < xss.length) : rx xss i ∈ xss := by rw [rx_lt h]; exact List.getElem_mem h

/-- All fit an int. -/
def Fits (xs : List Int) : Prop := ∀ n ∈ xs, -9223372036854775808 ≤ n ∧ n ≤ 9223372036854775807

/-- The slice value v reads as the ints xs in w. -/
def IntsAt (w : World) (v : Value) (xs : List Int) : Prop :=
  ∃ (a : Option Addr) (c : Nat), v = .slice a xs.length c ∧ xs.length ≤ c ∧ c ≤ 9223372036854775807 ∧ (a = none → c = 0) ∧
    (∀ i, i < xs.length → ∃ b o, a = some ⟨b, o, none⟩ ∧ b < w.heap.size ∧ ∀ j, j < xs.length → w.cell? ⟨b, o + j, none⟩ = some (.int .i64 (ix xs j)))

/-- The slice value v reads as the rows xss in w. -/
def RowsAt (w : World) (v : Value) (xss : List (List Int)) : Prop :=
  ∃ (a : Option Addr) (c : Nat) (V : Nat → Value), v = .slice a xss.length c ∧ xss.length ≤ c ∧ c ≤ 9223372036854775807 ∧ (a = none → c = 0) ∧
    (∀ i, i < xss.length → IntsAt w (V i) (rx xss i) ∧ ∃ b o, a = some ⟨b, o, none⟩ ∧ b < w.heap.size ∧ ∀ j, j < xss.length → w.cell? ⟨b, o + j, none⟩ = some (V j))

theorem IntsAt.below {w w' : World} {v : Value} {xs : List Int} (h : IntsAt w v xs) (hb : Below w.heap.size w w') : IntsAt w' v xs := by
  obtain ⟨a, c, h1, h2, h3, h4, h5⟩ := h
  refine ⟨a, c, h1, h2, h3, h4, fun i hi => ?_⟩
  obtain ⟨b, o, e, hl, hc⟩ := h5 i hi
  exact ⟨b, o, e, Nat.lt_of_lt_of_le hl hb.size, fun j hj => by rw [hb.cell (p := ⟨b, o + j, none⟩) hl]; exact hc j hj⟩

theorem RowsAt.below {w w' : World} {v : Value} {xss : List (List Int)} (h : RowsAt w v xss) (hb : Below w.heap.size w w') : RowsAt w' v xss := by
  obtain ⟨a, c, V, h1, h2, h3, h4, h5⟩ := h
  refine ⟨a, c, V, h1, h2, h3, h4, fun i hi => ?_⟩
  obtain ⟨hr, b, o, e, hl, hc⟩ := h5 i hi
  exact ⟨hr.below hb, b, o, e, Nat.lt_of_lt_of_le hl hb.size, fun j hj => by rw [hb.cell (p := ⟨b, o + j, none⟩) hl]; exact hc j hj⟩

theorem intsAt_nil (w : World) : IntsAt w (.slice none 0 0) [] :=
  ⟨none, 0, rfl, Nat.le_refl _, by omega, fun _ => rfl, fun i hi => by simp at hi⟩

theorem IntsAt.len {w : World} {v : Value} {xs : List Int} (h : IntsAt w v xs) : xs.length ≤ 9223372036854775807 := by
  obtain ⟨a, c, _, h2, h3, _⟩ := h; omega

/-- What is below the heap's size stays below when the heap has grown. -/
theorem belowTrans {a b c : World} (h : Below a.heap.size a b) (k : Below b.heap.size b c) : Below a.heap.size a c :=
  h.trans (k.mono h.size)

/-- The first n cells of block b hold f, and may be written. -/
def Arr (w : World) (b n : Nat) (f : Nat → Value) : Prop :=
  b < w.heap.size ∧ ∀ j, j < n → w.cell? ⟨b, j, none⟩ = some (f j) ∧ w.frozen? ⟨b, j, none⟩ = false
theorem Arr.lt {w : World} {b n : Nat} {f : Nat → Value} (h : Arr w b n f) : b < w.heap.size := h.1
theorem Arr.cell {w : World} {b n : Nat} {f : Nat → Value} (h : Arr w b n f) {j : Nat} (hj : j < n) : w.cell? ⟨b, j, none⟩ = some (f j) := (h.2 j hj).1
theorem Arr.free {w : World} {b n : Nat} {f : Nat → Value} (h : Arr w b n f) {j : Nat} (hj : j < n) : w.frozen? ⟨b, j, none⟩ = false := (h.2 j hj).2
theorem Arr.congr {w : World} {b n : Nat} {f g : Nat → Value} (h : Arr w b n f) (e : ∀ j, j < n → f j = g j) : Arr w b n g :=
  ⟨h.1, fun j hj => ⟨by rw [h.cell hj, e j hj], h.free hj⟩⟩
theorem Arr.set {w : World} {b n : Nat} {f : Nat → Value} (h : Arr w b n f) {j : Nat} (hj : j < n) (v : Value) :
    Arr (w.setCell ⟨b, j, none⟩ v) b n (fun i => if i = j then v else f i) := by
  refine ⟨by rw [World.size_setCell]; exact h.1, fun i hi => ⟨?_, by rw [World.frozen?_setCell]; exact h.free hi⟩⟩
  show _ = some (if i = j then v else f i)
  by_cases e : i = j
  · subst e; rw [if_pos rfl]; exact World.cell?_setCell_same _ _ _ (h.cell hi)
  · rw [if_neg e, World.cell?_setCell_other _ _ _ _ (by intro e2; injection e2; omega)]; exact h.cell hi
theorem Arr.setOther {w : World} {b n : Nat} {f : Nat → Value} (h : Arr w b n f) {p : Addr} (hp : p.block ≠ b) (v : Value) : Arr (w.setCell p v) b n f := by
  refine ⟨by rw [World.size_setCell]; exact h.1, fun i hi => ⟨?_, by rw [World.frozen?_setCell]; exact h.free hi⟩⟩
  rw [World.cell?_setCell_other _ _ _ _ (by intro e; subst e; exact hp rfl)]; exact h.cell hi
theorem Arr.alloc {w : World} {b n : Nat} {f : Nat → Value} (h : Arr w b n f) (o : Obj) : Arr (w.alloc o) b n f := by
  refine ⟨by have := h.1; simp; omega, fun i hi => ⟨?_, ?_⟩⟩
  · rw [World.cell?_alloc_old _ _ _ (Nat.ne_of_lt h.1)]; exact h.cell hi
  · rw [World.frozen?_alloc_old _ _ _ (Nat.ne_of_lt h.1)]; exact h.free hi
theorem Arr.drewN {w : World} {b n : Nat} {f : Nat → Value} (h : Arr w b n f) (m : Nat) : Arr (w.drewN m) b n f := h
theorem Arr.drew {w : World} {b n : Nat} {f : Nat → Value} (h : Arr w b n f) : Arr w.drew b n f := h
theorem Arr.below {w w' : World} {b n : Nat} {f : Nat → Value} (h : Arr w b n f) (hb : Below w.heap.size w w') : Arr w' b n f :=
  ⟨Nat.lt_of_lt_of_le h.1 hb.size, fun i hi => ⟨by rw [hb.cell (p := ⟨b, i, none⟩) h.1]; exact h.cell hi, by rw [hb.frozen (p := ⟨b, i, none⟩) h.1]; exact h.free hi⟩⟩
theorem Arr.new (w : World) (n : Nat) (v : Value) (t : TypeId) : Arr (w.alloc (.cells (Array.replicate n v) t)) w.heap.size n (fun _ => v) :=
  ⟨by simp, fun i hi => ⟨by rw [World.cell?_alloc_new]; simp [hi], World.frozen?_alloc_new _ _ _ _⟩⟩
theorem Arr.newOf (w : World) (n : Nat) (c : Array Value) (v : Value) (t : TypeId) (e : c = Array.replicate n v) : Arr (w.alloc (.cells c t)) w.heap.size n (fun _ => v) := by
  subst e; exact Arr.new w n v t
theorem Arr.newAt (w : World) (n m : Nat) (c : Array Value) (v : Value) (t : TypeId) (hm : m = w.heap.size) (e : c = Array.replicate n v) : Arr (w.alloc (.cells c t)) m n (fun _ => v) := by
  subst e; subst hm; exact Arr.new w n v t
/-- Flags; numbers. -/
def Flags (w : World) (b n : Nat) (f : Nat → Bool) : Prop := Arr w b n (fun j => .bool (f j))
def Nums (w : World) (b n : Nat) (f : Nat → Int) : Prop := Arr w b n (fun j => .int .i64 (f j))
theorem Flags.set {w : World} {b n : Nat} {f : Nat → Bool} (h : Flags w b n f) {j : Nat} (hj : j < n) : Flags (w.setCell ⟨b, j, none⟩ (.bool true)) b n (fun i => f i || j == i) := by
  refine (Arr.set h hj _).congr fun i _ => ?_
  by_cases e : i = j
  · subst e; simp
  · have : (j == i) = false := by simp; omega
    simp [e, this]
theorem Nums.set {w : World} {b n : Nat} {f : Nat → Int} (h : Nums w b n f) {j : Nat} (hj : j < n) (x : Int) : Nums (w.setCell ⟨b, j, none⟩ (.int .i64 x)) b n (fun i => if i = j then x else f i) := by
  refine (Arr.set h hj _).congr fun i _ => ?_
  by_cases e : i = j <;> simp [e]

theorem bcell {W w1 : World} (hb : Below W.heap.size W w1) : (∀ b o, b < W.heap.size → w1.cell? ⟨b, o, none⟩ = W.cell? ⟨b, o, none⟩) ∧ (∀ b o, b < W.heap.size → w1.frozen? ⟨b, o, none⟩ = W.frozen? ⟨b, o, none⟩) :=
  ⟨fun b o h => hb.cell (p := ⟨b, o, none⟩) h, fun b o h => hb.frozen (p := ⟨b, o, none⟩) h⟩
/-- Two structs of two cells each, boxed; what is read of them later. -/
theorem box2 {w w2 : World} {p q r s : Value} {T T' : TypeId} (hb : Below ((w.alloc (.cells #[p, q] T)).alloc (.cells #[r, s] T')).heap.size ((w.alloc (.cells #[p, q] T)).alloc (.cells #[r, s] T')) w2) :
    w.heap.size + 1 < w2.heap.size ∧ w.heap.size < w2.heap.size ∧
    w2.cell? ⟨w.heap.size, 0, none⟩ = some p ∧ w2.cell? ⟨w.heap.size, 1, none⟩ = some q ∧ w2.cell? ⟨w.heap.size + 1, 0, none⟩ = some r ∧ w2.cell? ⟨w.heap.size + 1, 1, none⟩ = some s := by
  have hz := hb.size
  simp only [World.size_alloc] at hz
  have hc : ∀ b o, b < w.heap.size + 1 + 1 → w2.cell? ⟨b, o, none⟩ = ((w.alloc (.cells #[p, q] T)).alloc (.cells #[r, s] T')).cell? ⟨b, o, none⟩ :=
    fun b o h => hb.cell (p := ⟨b, o, none⟩) (by simpa using h)
  have hn := fun i => World.cell?_alloc_new (w.alloc (.cells #[p, q] T)) #[r, s] T' i
  have ho := fun i => World.cell?_alloc_old (w.alloc (.cells #[p, q] T)) (.cells #[r, s] T') ⟨w.heap.size, i, none⟩ (by simp)
  have hn' := fun i => World.cell?_alloc_new w #[p, q] T i
  simp only [World.size_alloc] at hn
  refine ⟨by omega, by omega, ?_, ?_, ?_, ?_⟩
  · rw [hc _ _ (by omega), ho, hn']; rfl
  · rw [hc _ _ (by omega), ho, hn']; rfl
  · rw [hc _ _ (by omega), hn]; rfl
  · rw [hc _ _ (by omega), hn]; rfl
theorem box1 {w w2 : World} {p q : Value} {T : TypeId} (hb : Below (w.alloc (.cells #[p, q] T)).heap.size (w.alloc (.cells #[p, q] T)) w2) :
    w.heap.size < w2.heap.size ∧ w2.cell? ⟨w.heap.size, 0, none⟩ = some p ∧ w2.cell? ⟨w.heap.size, 1, none⟩ = some q := by
  have hz := hb.size
  simp only [World.size_alloc] at hz
  have hc : ∀ b o, b < w.heap.size + 1 → w2.cell? ⟨b, o, none⟩ = (w.alloc (.cells #[p, q] T)).cell? ⟨b, o, none⟩ :=
    fun b o h => hb.cell (p := ⟨b, o, none⟩) (by simpa using h)
  have hn' := fun i => World.cell?_alloc_new w #[p, q] T i
  refine ⟨by omega, ?_, ?_⟩
  · rw [hc _ _ (by omega), hn']; rfl
  · rw [hc _ _ (by omega), hn']; rfl
theorem below_box (w : World) (o : Obj) : Below w.heap.size w (w.alloc o) := (Below.refl _ _).alloc (Nat.le_refl _) _
theorem below_boxD (w : World) (o : Obj) (n : Nat) : Below w.heap.size w ((w.alloc o).drewN n) := below_drewN (below_box w o) n
theorem below_boxDD (w : World) (o : Obj) (n m : Nat) : Below w.heap.size w (((w.alloc o).drewN n).drewN m) := below_drewN (below_boxD w o n) m
theorem below_D (w : World) (n : Nat) : Below w.heap.size w (w.drewN n) := below_drewN (Below.refl _ _) n

theorem ret_tup2 {a b c d : Value} (h1 : a = c) (h2 : b = d) : Ending.returned (.tuple #[a, b]) = .returned (.tuple #[c, d]) := by rw [h1, h2]

theorem ret_bool {a b : Bool} (h : a = b) : Ending.returned (.bool a) = .returned (.bool b) := by rw [h]
theorem ret_int {k : IntKind} {a b : Int} (h : a = b) : Ending.returned (.int k a) = .returned (.int k b) := by rw [h]

end Go.Proofs.Ytimfggbfapbihaa
