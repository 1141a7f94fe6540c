/-
  design.Dual: the plain law, what stands in memory. No condition.
-/
import Derived.Test.YtkmcmahpfhlkhaaComp
import Derived.Test.YtkmcmahpfhlkhaaDualOf
namespace Go.Proofs.Ytkmcmahpfhlkhaa
open Go.RowKit

/-- What row j holds behind k blocks and x points of one more. -/
def dualF (xss : List (List Int)) (k x j : Nat) : List Int := pickL (inB xss j) k ++ (if mem ((rx xss k).take x) j then [(k : Int)] else [])
theorem dualF_zero (xss : List (List Int)) (k j : Nat) : dualF xss k 0 j = pickL (inB xss j) k := by unfold dualF; simp [mem]
theorem dualF_full (xss : List (List Int)) (k j : Nat) : dualF xss k (rx xss k).length j = pickL (inB xss j) (k + 1) := by
  unfold dualF
  rw [List.take_length]
  cases e : mem (rx xss k) j
  · rw [pickL_no (show inB xss j k = false from e)]; simp
  · rw [pickL_yes (show inB xss j k = true from e)]; simp
theorem mem_takeD {xs : List Int} {x : Nat} {y : Int} (h : x < xs.length) : mem (xs.take (x + 1)) y = (mem (xs.take x) y || ix xs x == y) := by
  rw [Bool.eq_iff_iff, Bool.or_eq_true, mem_iff, mem_iff, beq_iff_eq, List.take_succ_eq_append_getElem h, List.mem_append, List.mem_singleton, ix_lt h]
  constructor
  · rintro (h | h)
    · exact .inl h
    · exact .inr h.symm
  · rintro (h | h)
    · exact .inl h
    · exact .inr h.symm
theorem take_new {n : Int} {xs : List Int} (hb : IsBlock n xs) {x : Nat} (h : x < xs.length) : mem (xs.take x) (ix xs x) = false := by
  cases e : mem (xs.take x) (ix xs x)
  · rfl
  · rw [mem_iff] at e
    obtain ⟨i, hi, he⟩ := List.getElem_of_mem e
    rw [List.length_take] at hi
    rw [List.getElem_take] at he
    have := inc_lt hb.inc (show i < x by omega) h
    rw [ix_lt (show i < xs.length by omega)] at this
    omega
theorem dualF_next {n : Int} {xss : List (List Int)} {k x p : Nat} (hb : IsBlock n (rx xss k)) (h : x < (rx xss k).length) (hp : ix (rx xss k) x = (p : Int)) (j : Nat) :
    dualF xss k (x + 1) j = if j = p then dualF xss k x p ++ [(k : Int)] else dualF xss k x j := by
  unfold dualF
  rw [mem_takeD h, hp]
  by_cases e : j = p
  · subst e
    have := take_new hb h
    rw [hp] at this
    rw [if_pos rfl, this]
    simp
  · rw [if_neg e]
    have : ((p : Int) == (j : Int)) = false := by simp; omega
    rw [this, Bool.or_false]
theorem dualF_len {xss : List (List Int)} {k x j : Nat} : (dualF xss k x j).length ≤ k + 1 := by
  unfold dualF
  rw [List.length_append]
  have := pickL_len (inB xss j) k
  split
  · rw [List.length_singleton]; omega
  · rw [List.length_nil]; omega

def upd {α : Type} (f : Nat → α) (p : Nat) (x : α) (j : Nat) : α := if j = p then x else f j
/-- The argument, the result, what is built (block bo), its array (block ab), the rows (from block B on, each in its own block). -/
structure DuRel (w wr : World) (ab bo B n : Nat) (dv : Value) (L : Nat) (V : Nat → Value) (F : Nat → List Int) : Prop where
  box : Arr wr w.heap.size 2 (fun j => if j = 0 then .int .i64 n else dv)
  res : Arr wr (w.heap.size + 1) 2 (fun j => if j = 0 then .int .i64 0 else .slice none 0 0)
  out : Arr wr bo 2 (fun j => if j = 0 then .int .i64 L else .slice (some ⟨ab, 0, none⟩) n n)
  arr : Arr wr ab n V
  row : ∀ j, j < n → Own wr B 3 (V j) (F j)
  far : ∀ i j, i < n → j < n → i ≠ j → (V i).ownBlock = none ∨ (V i).ownBlock ≠ (V j).ownBlock
  lo1 : w.heap.size + 1 < ab
  lo2 : w.heap.size + 1 < bo
  ne : ab ≠ bo
  hi1 : ab < B
  hi2 : bo < B
  size : B ≤ wr.heap.size
  bel : Below w.heap.size w wr
theorem DuRel.push {w wr w1 w2 : World} {ab bo B n : Nat} {dv : Value} {L : Nat} {V : Nat → Value} {F : Nat → List Int} (h : DuRel w wr ab bo B n dv L V F) (hb : Below wr.heap.size wr w1) {p : Nat} (hp : p < n) {v' : Value} {ys : List Int}
    (hO : Own w2 B 3 v' ys) (hg : w1.grownBy w2 (V p).ownBlock) (hat : (V p).ownBlock = v'.ownBlock ∨ ∃ g, v'.ownBlock = some g ∧ wr.heap.size ≤ g) :
    DuRel w (w2.setCell ⟨ab, p, none⟩ v') ab bo B n dv L (upd V p v') (upd F p ys) := by
  have z1 := h.lo1; have z2 := h.lo2; have z3 := h.ne; have z4 := h.hi1; have z5 := h.hi2; have z6 := h.size; have z7 := hb.size
  have hbl : ∀ k, (V p).ownBlock = some k → B ≤ k := fun k hk => ((h.row p hp).block k hk).1
  have kp : ∀ {b m : Nat} {f : Nat → Value}, b < B → Arr wr b m f → Arr w2 b m f := fun {b m f} hlt hA =>
    (hA.below hb).kept (fun o => hg.cell_far ⟨b, o, none⟩ (show b < w1.heap.size by omega) (fun e => by have := hbl b e.symm; omega)) (fun o => hg.frozen_far ⟨b, o, none⟩ (show b < w1.heap.size by omega) (fun e => by have := hbl b e.symm; omega)) hg.size
  have keepR : ∀ j, j < n → j ≠ p → Own w2 B 3 (V j) (F j) := fun j hj hne =>
    World.ownsRow.kept (own_below (h.row j hj) hb) hg (h.far j p hj hp hne)
  refine ⟨(kp (by omega) h.box).setOther (by show ab ≠ _; omega) _, (kp (by omega) h.res).setOther (by show ab ≠ _; omega) _, (kp (by omega) h.out).setOther (by show ab ≠ _; omega) _, ?_, fun j hj => ?_, fun i j hi hj hij => ?_, z1, z2, z3, z4, z5, ?_, ?_⟩
  · exact ((kp (by omega) h.arr).set hp v').congr fun j _ => rfl
  · unfold upd
    by_cases e : j = p
    · rw [if_pos e, if_pos e]; exact hO.setFar (by show ab < B; omega) _
    · rw [if_neg e, if_neg e]; exact (keepR j hj e).setFar (by show ab < B; omega) _
  · unfold upd
    by_cases ei : i = p
    · rw [if_pos ei, if_neg (by omega)]
      rcases hat with e | ⟨g, e, hlt⟩
      · rw [← e]; exact h.far p j hp hj (by omega)
      · right
        rw [e]
        intro hj2
        have := ((h.row j hj).block g hj2.symm).2
        omega
    · rw [if_neg ei]
      by_cases ej : j = p
      · rw [if_pos ej]
        rcases hat with e | ⟨g, e, hlt⟩
        · rw [← e]; exact h.far i p hi hp ei
        · cases hv : (V i).ownBlock with
          | none => exact .inl rfl
          | some g' =>
            right
            rw [e]
            intro hj2
            injection hj2 with hj2
            have := ((h.row i hi).block g' hv).2
            omega
      · rw [if_neg ej]; exact h.far i j hi hj hij
  · rw [World.size_setCell]; have := hg.size; omega
  · exact (((h.bel.trans (hb.mono (by omega))).grown hg (by omega) (fun k hk => by have := hbl k hk; omega))).setCell (by show _ ≤ ab; omega) _
theorem DuRel.congr {w wr : World} {ab bo B n : Nat} {dv : Value} {L : Nat} {V : Nat → Value} {F G : Nat → List Int} (h : DuRel w wr ab bo B n dv L V F) (e : ∀ j, j < n → F j = G j) : DuRel w wr ab bo B n dv L V G :=
  ⟨h.box, h.res, h.out, h.arr, fun j hj => by rw [← e j hj]; exact h.row j hj, h.far, h.lo1, h.lo2, h.ne, h.hi1, h.hi2, h.size, h.bel⟩
theorem DuRel.rows {w wr : World} {ab bo B n : Nat} {dv : Value} {L : Nat} {V : Nat → Value} {F : Nat → List Int} (h : DuRel w wr ab bo B n dv L V F) (hn : n ≤ 1000000000) (hr : ∀ j, j < n → (F j).length ≤ 1000000000) : RowsAt wr (.slice (some ⟨ab, 0, none⟩) n n) (rowsTo F n) := by
  refine ⟨some ⟨ab, 0, none⟩, n, V, by rw [rowsTo_len], by rw [rowsTo_len]; exact Nat.le_refl _, by omega, (fun h => by cases h), fun i hi => ?_⟩
  rw [rowsTo_len] at hi
  rw [rowsTo_rx F hi]
  refine ⟨(h.row i hi).intsAt (by have := hr i hi; omega), ab, 0, rfl, h.arr.lt, fun j hj => ?_⟩
  rw [rowsTo_len] at hj
  rw [Nat.zero_add]; exact h.arr.cell hj
theorem DuRel.last {w wr : World} {ab bo B n : Nat} {dv : Value} {L : Nat} {V : Nat → Value} {F : Nat → List Int} (h : DuRel w wr ab bo B n dv L V F) :
    Arr ((wr.setCell ⟨w.heap.size + 1, 0, none⟩ (.int .i64 L)).setCell ⟨w.heap.size + 1, 1, none⟩ (.slice (some ⟨ab, 0, none⟩) n n)) (w.heap.size + 1) 2 (fun j => if j = 0 then .int .i64 L else .slice (some ⟨ab, 0, none⟩) n n) :=
  ((h.res.set (show 0 < 2 by omega) (.int .i64 L)).set (show 1 < 2 by omega) (.slice (some ⟨ab, 0, none⟩) n n)).congr fun j hj => by
    rcases j with _ | _ | j
    · rfl
    · rfl
    · omega
theorem DuRel.fin {w wr : World} {ab bo B n : Nat} {dv : Value} {L : Nat} {V : Nat → Value} {F : Nat → List Int} (h : DuRel w wr ab bo B n dv L V F) (hn : n ≤ 1000000000) (hr : ∀ j, j < n → (F j).length ≤ 1000000000) :
    DesPostT L (rowsTo F n) 0 w (.returned (.tuple #[.agg ((List.range 2).map (fun j => if j = 0 then Value.int .i64 L else .slice (some ⟨ab, 0, none⟩) n n)).toArray, .int .i64 0])) ((wr.setCell ⟨w.heap.size + 1, 0, none⟩ (.int .i64 L)).setCell ⟨w.heap.size + 1, 1, none⟩ (.slice (some ⟨ab, 0, none⟩) n n)) := by
  have z1 := h.lo1; have z4 := h.hi1
  have A2 := (h.arr.setOther (p := ⟨w.heap.size + 1, 0, none⟩) (by show w.heap.size + 1 ≠ ab; omega) (.int .i64 L)).setOther (p := ⟨w.heap.size + 1, 1, none⟩) (by show w.heap.size + 1 ≠ ab; omega) (.slice (some ⟨ab, 0, none⟩) n n)
  have hk : KeepT (rowsTo F n) (.slice (some ⟨ab, 0, none⟩) n n) w.heap.size ((wr.setCell ⟨w.heap.size + 1, 0, none⟩ (.int .i64 L)).setCell ⟨w.heap.size + 1, 1, none⟩ (.slice (some ⟨ab, 0, none⟩) n n)) := by
    intro w'' hc hz
    refine ⟨some ⟨ab, 0, none⟩, n, V, by rw [rowsTo_len], by rw [rowsTo_len]; exact Nat.le_refl _, by omega, (fun h => by cases h), fun i hi => ?_⟩
    rw [rowsTo_len] at hi
    rw [rowsTo_rx F hi]
    have hO := ((h.row i hi).setFar (a := ⟨w.heap.size + 1, 0, none⟩) (by show w.heap.size + 1 < B; omega) (.int .i64 L)).setFar (a := ⟨w.heap.size + 1, 1, none⟩) (by show w.heap.size + 1 < B; omega) (.slice (some ⟨ab, 0, none⟩) n n)
    refine ⟨(hO.intsAt (by have := hr i hi; omega)).cellsAs (hO.far (Nat.le_refl B)) (fun b o hb => hc b o (by omega)) hz, ab, 0, rfl, Nat.lt_of_lt_of_le A2.lt hz, fun j hj => ?_⟩
    rw [rowsTo_len] at hj
    rw [hc ab _ (by omega), Nat.zero_add]; exact A2.cell hj
  exact ⟨.slice (some ⟨ab, 0, none⟩) n n, rfl, hk _ (fun _ _ _ => rfl) (Nat.le_refl _), (h.bel.setCell (by show _ ≤ w.heap.size + 1; omega) _).setCell (by show _ ≤ w.heap.size + 1; omega) _, hk⟩
end Go.Proofs.Ytkmcmahpfhlkhaa
