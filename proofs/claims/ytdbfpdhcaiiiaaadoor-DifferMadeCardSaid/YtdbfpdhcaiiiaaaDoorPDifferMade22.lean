/-
  Two polynomials made in one statement that draws its order. No condition.
-/
import Derived.Test.YtdbfpdhcaiiiaaaDoorPDifferMade21
import Derived.Deep.RegionHeld3
import Derived.Deep.DeepCutAuto
namespace Go.Proofs.YtdbfpdhcaiiiaaaDoor
open Go.RowKit

/-- A block of seven cells that may be written. -/
def Wr (w : World) (b : Nat) : Prop := ∃ f, Arr w b 7 f
theorem Wr.new (w : World) {b : Nat} (t : TypeId) (h : b = w.heap.size) : Wr (w.alloc (.cells polyZ t)) b := by subst h; exact ⟨_, Arr.newOf w 7 _ _ _ polyZeroA⟩
theorem Wr.alloc {w : World} {b : Nat} (h : Wr w b) (o : Obj) : Wr (w.alloc o) b := by obtain ⟨f, h⟩ := h; exact ⟨f, h.alloc o⟩
theorem Wr.below {w w' : World} {b : Nat} (h : Wr w b) (hb : Below w.heap.size w w') : Wr w' b := by obtain ⟨f, h⟩ := h; exact ⟨f, h.below hb⟩
/-- A polynomial stored whole. -/
def stP (w : World) (b : Nat) (f : Nat → Nat) : World := w.setCells b 0 (rowOf 7 fun j => ((f j : Nat) : Int))
theorem stP_run {P : Program} {w : World} {b : Nat} (h : Wr w b) (f : Nat → Nat) : (storeCells ⟨b, 0, none⟩ (rowOf 7 fun j => ((f j : Nat) : Int)) 0).run P w = .ok () (stP w b f) := by
  obtain ⟨g, h⟩ := h
  refine run_storeCells_cells b 0 (rowOf 7 fun j => ((f j : Nat) : Int)) 0 w (fun j hj => ?_) (fun j hj => ?_) (rowOf_one _ _)
  · rw [rowOf_len] at hj
    rw [Nat.zero_add, h.cell hj]; rfl
  · rw [rowOf_len] at hj
    rw [Nat.zero_add, h.free hj]
theorem stP_poly {w : World} {b : Nat} (h : Wr w b) (f : Nat → Nat) : PolyAt (stP w b f) b f := by
  obtain ⟨g, h⟩ := h
  unfold stP
  refine ⟨by rw [setCells_size]; exact h.lt, fun j hj => ⟨?_, ?_⟩⟩
  · have := World.cell?_setCells_in b (rowOf 7 fun j => ((f j : Nat) : Int)) 0 w (fun i hi => by rw [rowOf_len] at hi; rw [Nat.zero_add, h.cell hi]; rfl) j (by rw [rowOf_len]; exact hj)
    rw [Nat.zero_add] at this
    rw [this]
    simp [rowOf]
  · rw [World.frozen?_setCells]; exact h.free hj
theorem stP_size (w : World) (b : Nat) (f : Nat → Nat) : (stP w b f).heap.size = w.heap.size := setCells_size _ _ _ _
theorem stP_other {w : World} {b b' n : Nat} {g : Nat → Value} (f : Nat → Nat) (h : Arr w b' n g) (hb : b' ≠ b) : Arr (stP w b f) b' n g :=
  h.kept (fun o => World.cell?_of_block (w := w) (a := ⟨b', o, none⟩) (setCells_far b _ 0 w b' hb)) (fun o => World.frozen?_of_block (w := w) (a := ⟨b', o, none⟩) (setCells_far b _ 0 w b' hb)) (by rw [stP_size]; exact Nat.le_refl _)
theorem stP_wr {w : World} {b b' : Nat} (f : Nat → Nat) (h : Wr w b') (hb : b' ≠ b) : Wr (stP w b f) b' := by obtain ⟨g, h⟩ := h; exact ⟨g, stP_other f h hb⟩
theorem stP_below (w : World) (b : Nat) (f : Nat → Nat) {B : Nat} (h : B ≤ b) : Below B w (stP w b f) := setCells_below b _ 0 w B h

/-- Where one of the two polynomials stands: not made, made, stored. -/
inductive St where
  | no
  | wr (b : Nat)
  | po (b : Nat) (f : Nat → Nat)
def St.blk : St → Option Nat
  | .no => none
  | .wr b => some b
  | .po b _ => some b
def St.At (B : Nat) (w : World) : St → Prop
  | .no => True
  | .wr b => B < b ∧ Wr w b
  | .po b f => B < b ∧ PolyAt w b f
theorem St.At.lt {B : Nat} {w : World} {t : St} (h : t.At B w) {b : Nat} (hb : t.blk = some b) : b < w.heap.size := by
  cases t with
  | no => cases hb
  | wr b => cases hb; obtain ⟨f, h⟩ := h.2; exact h.lt
  | po b f => cases hb; exact Arr.lt h.2
theorem St.At.below {B : Nat} {w w' : World} {t : St} (h : t.At B w) (hb : Below w.heap.size w w') : t.At B w' := by
  cases t with
  | no => trivial
  | wr b => exact ⟨h.1, h.2.below hb⟩
  | po b f => exact ⟨h.1, Arr.below h.2 hb⟩
theorem St.At.store {B : Nat} {w : World} {t : St} (h : t.At B w) {b : Nat} (f : Nat → Nat) (hb : ∀ c, t.blk = some c → c ≠ b) : t.At B (stP w b f) := by
  cases t with
  | no => trivial
  | wr c => exact ⟨h.1, stP_wr f h.2 (hb c rfl)⟩
  | po c g => exact ⟨h.1, stP_other f h.2 (hb c rfl)⟩
/-- What stands in the middle of the statement: the room, and what there is of the two. -/
structure SI (w W : World) (p d q : Nat) (v : Value) (s t : St) : Prop where
  bel : Below w.heap.size w W
  lt : w.heap.size < W.heap.size
  rm : Arr W w.heap.size 4 (four (.int .i64 (p : Int)) (.int .i64 (d : Int)) v (.int .i64 (q : Int)))
  s1 : s.At w.heap.size W
  t1 : t.At w.heap.size W
  ne : ∀ b c, s.blk = some b → t.blk = some c → b ≠ c
theorem SI.begin (w : World) (p d q : Nat) (v : Value) (T : TypeId) : SI w (w.alloc (.cells #[.int .i64 (p : Int), .int .i64 (d : Int), v, .int .i64 (q : Int)] T)).drew p d q v .no .no :=
  ⟨(below_box w _).drew, by show _ < (w.alloc _).heap.size; simp, Arr.drew (four_new w _ _ _ _ T), trivial, trivial, fun b c h => by cases h⟩
theorem SI.call {w W W' : World} {p d q : Nat} {v : Value} {s t : St} (h : SI w W p d q v s t) (hb : Below W.heap.size W W') : SI w W' p d q v s t :=
  ⟨belowTrans h.bel hb, Nat.lt_of_lt_of_le h.lt hb.size, Arr.below h.rm hb, h.s1.below hb, h.t1.below hb, h.ne⟩
theorem SI.make1 {w W : World} {p d q : Nat} {v : Value} {t : St} (h : SI w W p d q v .no t) (T : TypeId) : SI w (W.alloc (.cells polyZ T)) p d q v (.wr W.heap.size) t :=
  ⟨h.bel.alloc h.bel.size _, by have := h.lt; simp; omega, Arr.alloc h.rm _, ⟨h.lt, Wr.new W T rfl⟩, h.t1.below (below_box _ _), fun b c hb hc => by cases hb; have := h.t1.lt hc; omega⟩
theorem SI.make2 {w W : World} {p d q : Nat} {v : Value} {s : St} (h : SI w W p d q v s .no) (T : TypeId) : SI w (W.alloc (.cells polyZ T)) p d q v s (.wr W.heap.size) :=
  ⟨h.bel.alloc h.bel.size _, by have := h.lt; simp; omega, Arr.alloc h.rm _, h.s1.below (below_box _ _), ⟨h.lt, Wr.new W T rfl⟩, fun b c hb hc => by cases hc; have := h.s1.lt hb; omega⟩
theorem SI.put1 {w W : World} {p d q : Nat} {v : Value} {b : Nat} {t : St} (h : SI w W p d q v (.wr b) t) (f : Nat → Nat) : SI w (stP W b f) p d q v (.po b f) t :=
  ⟨h.bel.trans (stP_below W b f (Nat.le_of_lt h.s1.1)), by rw [stP_size]; exact h.lt, stP_other f h.rm (Nat.ne_of_lt h.s1.1), ⟨h.s1.1, stP_poly h.s1.2 f⟩, h.t1.store f (fun c hc => Ne.symm (h.ne b c rfl hc)), fun b' c hb hc => by cases hb; exact h.ne b c rfl hc⟩
theorem SI.put2 {w W : World} {p d q : Nat} {v : Value} {b : Nat} {s : St} (h : SI w W p d q v s (.wr b)) (f : Nat → Nat) : SI w (stP W b f) p d q v s (.po b f) :=
  ⟨h.bel.trans (stP_below W b f (Nat.le_of_lt h.t1.1)), by rw [stP_size]; exact h.lt, stP_other f h.rm (Nat.ne_of_lt h.t1.1), h.s1.store f (fun c hc => h.ne c b hc rfl), ⟨h.t1.1, stP_poly h.t1.2 f⟩, fun b' c hb hc => by cases hc; exact h.ne b' b hb rfl⟩
theorem SI.cell {w W : World} {p d q : Nat} {v : Value} {s t : St} (h : SI w W p d q v s t) : W.cell? ⟨w.heap.size, 0, none⟩ = some (.int .i64 (p : Int)) := h.rm.cell (show 0 < 4 by omega)
theorem SI.wr1 {w W : World} {p d q : Nat} {v : Value} {b : Nat} {t : St} (h : SI w W p d q v (.wr b) t) : Wr W b := h.s1.2
theorem SI.wr2 {w W : World} {p d q : Nat} {v : Value} {b : Nat} {s : St} (h : SI w W p d q v s (.wr b)) : Wr W b := h.t1.2

/-- What stands behind the statement. -/
structure TwoRel (w wr : World) (p d q : Nat) (v : Value) (b7 b8 : Nat) (x y : Nat → Nat) : Prop where
  bel : Below w.heap.size w wr
  rm : Arr wr w.heap.size 4 (four (.int .i64 (p : Int)) (.int .i64 (d : Int)) v (.int .i64 (q : Int)))
  px : PolyAt wr b7 x
  py : PolyAt wr b8 y
  n7 : w.heap.size < b7
  n8 : w.heap.size < b8
  ne : b7 ≠ b8

theorem TwoRel.step {w wr W : World} {p d q : Nat} {v : Value} {b c : Nat} {f g : Nat → Nat} (h : TwoRel w wr p d q v b c f g) (hb : Below wr.heap.size wr W) : TwoRel w W p d q v b c f g :=
  ⟨belowTrans h.bel hb, Arr.below h.rm hb, Arr.below h.px hb, Arr.below h.py hb, h.n7, h.n8, h.ne⟩
theorem TwoRel.put {w wr : World} {p d q : Nat} {v : Value} {b c : Nat} {f g : Nat → Nat} (h : TwoRel w wr p d q v b c f g) {j : Nat} (hj : j < 7) (y : Nat) :
    TwoRel w (wr.setCell ⟨b, j, none⟩ (.int .i64 (y : Int))) p d q v b c (fun i => if i = j then y else f i) g :=
  ⟨h.bel.setCell (Nat.le_of_lt h.n7) _, Arr.setOther h.rm (by have := h.n7; show b ≠ w.heap.size; omega) _, h.px.set hj y, Arr.setOther h.py h.ne _, h.n7, h.n8, h.ne⟩
theorem TwoRel.congr {w wr : World} {p d q : Nat} {v : Value} {b c : Nat} {f f' g : Nat → Nat} (h : TwoRel w wr p d q v b c f g) (e : ∀ j, j < 7 → f j = f' j) : TwoRel w wr p d q v b c f' g :=
  ⟨h.bel, h.rm, h.px.congr e, h.py, h.n7, h.n8, h.ne⟩
theorem TwoRel.room {w wr : World} {p d q : Nat} {v : Value} {b c : Nat} {f g : Nat → Nat} (h : TwoRel w wr p d q v b c f g) :
    wr.cell? ⟨w.heap.size, 0, none⟩ = some (.int .i64 (p : Int)) ∧ wr.cell? ⟨w.heap.size, 1, none⟩ = some (.int .i64 (d : Int)) ∧ wr.cell? ⟨w.heap.size, 2, none⟩ = some v ∧ wr.cell? ⟨w.heap.size, 3, none⟩ = some (.int .i64 (q : Int)) :=
  ⟨h.rm.cell (show 0 < 4 by omega), h.rm.cell (show 1 < 4 by omega), h.rm.cell (show 2 < 4 by omega), h.rm.cell (show 3 < 4 by omega)⟩
theorem sum_vals {p x y : Nat} (hp : p ≤ 64) (hx : x < p) (hy : y < p) :
    IntKind.i64.wrap ((x : Int) + (y : Int)) = ((x + y : Nat) : Int) ∧ IntKind.i64.wrap (((x + y : Nat) : Int).tmod (p : Int)) = (((x + y) % p : Nat) : Int) := by
  have h2 : (x + y) % p < p := Nat.mod_lt _ (by omega)
  refine ⟨?_, ?_⟩
  · rw [← Int.natCast_add]; exact IntWalk.i64_in _ (by omega)
  · rw [← Int.ofNat_tmod]; exact IntWalk.i64_in _ (by omega)
/-- A sum behind i places. -/
def adF (p : Nat) (x y : Nat → Nat) (i j : Nat) : Nat := if j < i then (x j + y j) % p else x j
theorem adF_next (p : Nat) (x y : Nat → Nat) (i j : Nat) : (if j = i then (x i + y i) % p else adF p x y i j) = adF p x y (i + 1) j := by
  unfold adF
  by_cases e : j = i
  · subst e; rw [if_pos rfl, if_pos (by omega)]
  · rw [if_neg e]
    by_cases e2 : j < i
    · rw [if_pos e2, if_pos (by omega)]
    · rw [if_neg e2, if_neg (by omega)]
theorem SI.two {w W : World} {p d q : Nat} {v : Value} {b c : Nat} {f g : Nat → Nat} (h : SI w W p d q v (.po b f) (.po c g)) : TwoRel w W p d q v b c f g :=
  ⟨h.bel, h.rm, h.s1.2, h.t1.2, h.s1.1, h.t1.1, h.ne b c rfl rfl⟩

/-- What mul holds: the room, the two polynomials, the product so far. -/
structure MulRel (w wr : World) (p d q : Nat) (v : Value) (b7 b8 b9 : Nat) (x y o : Nat → Nat) : Prop where
  two : TwoRel w wr p d q v b7 b8 x y
  po : PolyAt wr b9 o
  n9 : w.heap.size < b9
  e7 : b7 ≠ b9
  e8 : b8 ≠ b9
theorem MulRel.begin {w wr : World} {p d q : Nat} {v : Value} {b7 b8 : Nat} {x y : Nat → Nat} (h : TwoRel w wr p d q v b7 b8 x y) (T : TypeId) :
    MulRel w (wr.alloc (.cells polyZ T)) p d q v b7 b8 wr.heap.size x y (fun _ => 0) :=
  ⟨h.step (below_box _ _), Arr.newOf wr 7 _ _ _ polyZeroA, by have := h.n7; have := Arr.lt h.px; omega, by have := Arr.lt h.px; omega, by have := Arr.lt h.py; omega⟩
theorem MulRel.step {w wr W : World} {p d q : Nat} {v : Value} {b7 b8 b9 : Nat} {x y o : Nat → Nat} (h : MulRel w wr p d q v b7 b8 b9 x y o) (hb : Below wr.heap.size wr W) : MulRel w W p d q v b7 b8 b9 x y o :=
  ⟨h.two.step hb, Arr.below h.po hb, h.n9, h.e7, h.e8⟩
theorem MulRel.put {w wr : World} {p d q : Nat} {v : Value} {b7 b8 b9 : Nat} {x y o : Nat → Nat} (h : MulRel w wr p d q v b7 b8 b9 x y o) {j : Nat} (hj : j < 7) (z : Nat) :
    MulRel w (wr.setCell ⟨b9, j, none⟩ (.int .i64 (z : Int))) p d q v b7 b8 b9 x y (fun i => if i = j then z else o i) :=
  ⟨⟨h.two.bel.setCell (Nat.le_of_lt h.n9) _, Arr.setOther h.two.rm (by have := h.n9; show b9 ≠ w.heap.size; omega) _, Arr.setOther h.two.px (Ne.symm h.e7) _, Arr.setOther h.two.py (Ne.symm h.e8) _, h.two.n7, h.two.n8, h.two.ne⟩, h.po.set hj z, h.n9, h.e7, h.e8⟩
theorem MulRel.congr {w wr : World} {p d q : Nat} {v : Value} {b7 b8 b9 : Nat} {x y o o' : Nat → Nat} (h : MulRel w wr p d q v b7 b8 b9 x y o) (e : ∀ j, j < 7 → o j = o' j) : MulRel w wr p d q v b7 b8 b9 x y o' :=
  ⟨h.two, h.po.congr e, h.n9, h.e7, h.e8⟩
theorem MulRel.turn {w wr : World} {p d q : Nat} {v : Value} {b7 b8 b9 : Nat} {x y o : Nat → Nat} (h : MulRel w wr p d q v b7 b8 b9 x y o) (x' : Nat → Nat) : MulRel w (stP wr b7 x') p d q v b7 b8 b9 x' y o :=
  ⟨⟨h.two.bel.trans (stP_below wr b7 x' (Nat.le_of_lt h.two.n7)), stP_other x' h.two.rm (Nat.ne_of_lt h.two.n7), stP_poly ⟨_, h.two.px⟩ x', stP_other x' h.two.py (Ne.symm h.two.ne), h.two.n7, h.two.n8, h.two.ne⟩,
    stP_other x' h.po (Ne.symm h.e7), h.n9, h.e7, h.e8⟩
/-- The product behind k places of a round. -/
def muF (p : Nat) (o x : Nat → Nat) (y k j : Nat) : Nat := if j < k then (o j + x j * y) % p else o j
theorem muF_next (p : Nat) (o x : Nat → Nat) (y k j : Nat) : (if j = k then (o k + x k * y) % p else muF p o x y k j) = muF p o x y (k + 1) j := by
  unfold muF
  by_cases e : j = k
  · subst e; rw [if_pos rfl, if_pos (by omega)]
  · rw [if_neg e]
    by_cases e2 : j < k
    · rw [if_pos e2, if_pos (by omega)]
    · rw [if_neg e2, if_neg (by omega)]
theorem outF_far (p d : Nat) (low x y : Nat → Nat) {j : Nat} (hj : d ≤ j) : ∀ i, outF p d low x y i j = 0
  | 0 => rfl
  | i + 1 => by rw [outF]; dsimp only; rw [if_neg (by omega)]
theorem muF_done (p d : Nat) (low x y : Nat → Nat) (i j : Nat) : muF p (outF p d low x y i) (shN p d low x i) (y i) d j = outF p d low x y (i + 1) j := by
  unfold muF
  rw [outF]
  dsimp only
  by_cases h : j < d
  · rw [if_pos h, if_pos h]
  · rw [if_neg h, if_neg h, outF_far p d low x y (by omega) i]
theorem prod_vals {p o x y : Nat} (hp : p ≤ 64) (ho : o < p) (hx : x < p) (hy : y < p) :
    IntKind.i64.wrap ((x : Int) * (y : Int)) = ((x * y : Nat) : Int) ∧ IntKind.i64.wrap ((o : Int) + ((x * y : Nat) : Int)) = ((o + x * y : Nat) : Int) ∧ IntKind.i64.wrap (((o + x * y : Nat) : Int).tmod (p : Int)) = (((o + x * y) % p : Nat) : Int) := by
  have h1 : x * y ≤ 64 * 64 := Nat.mul_le_mul (by omega) (by omega)
  have h2 : (o + x * y) % p < p := Nat.mod_lt _ (by omega)
  refine ⟨?_, ?_, ?_⟩
  · rw [← Int.natCast_mul]; exact IntWalk.i64_in _ (by omega)
  · rw [← Int.natCast_add]; exact IntWalk.i64_in _ (by omega)
  · rw [← Int.ofNat_tmod]; exact IntWalk.i64_in _ (by omega)
end Go.Proofs.YtdbfpdhcaiiiaaaDoor
