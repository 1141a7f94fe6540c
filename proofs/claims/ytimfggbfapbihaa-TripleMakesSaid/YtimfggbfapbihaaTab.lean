/-
  A block of cells stored whole, loaded whole. No condition.
-/
import Derived.Test.YtimfggbfapbihaaLib
import Derived.Laws.IdiomCopy
import Derived.Deep.WholeRow
import Derived.Laws.ResultCell
namespace Go.Proofs.Ytimfggbfapbihaa
open Go.RowKit

theorem setCells_far (b : Nat) : ∀ (vs : List Value) (o : Nat) (w : World) (k : Nat), k ≠ b → (w.setCells b o vs).heap[k]? = w.heap[k]?
  | [], _, _, _, _ => rfl
  | v :: r, o, w, k, h => by rw [World.setCells, setCells_far b r _ _ k h]; exact Below.heap_setCell w ⟨b, o, none⟩ v k h
theorem setCells_size (b : Nat) : ∀ (vs : List Value) (o : Nat) (w : World), (w.setCells b o vs).heap.size = w.heap.size
  | [], _, _ => rfl
  | v :: r, o, w => by rw [World.setCells, setCells_size b r, World.size_setCell]
theorem setCells_below (b : Nat) : ∀ (vs : List Value) (o : Nat) (w : World) (B : Nat), B ≤ b → Below B w (w.setCells b o vs)
  | [], _, _, _, _ => Below.refl _ _
  | v :: r, o, w, B, h => ((Below.refl B w).setCell (p := ⟨b, o, none⟩) h v).trans (setCells_below b r _ _ B h)

theorem stores {P : Program} {w : World} {b n : Nat} {f : Nat → Value} (hA : Arr w b n f) (vs : List Value) (hl : vs.length = n) (h1 : ∀ v ∈ vs, v.oneCell' = true) :
    ∃ W, (storeCells ⟨b, 0, none⟩ vs 0).run P w = .ok () W ∧ Arr W b n (fun j => vs.getD j undef) ∧
      (∀ k o, k ≠ b → W.cell? ⟨k, o, none⟩ = w.cell? ⟨k, o, none⟩) ∧ (∀ k o, k ≠ b → W.frozen? ⟨k, o, none⟩ = w.frozen? ⟨k, o, none⟩) ∧ W.heap.size = w.heap.size ∧ ∀ B, B ≤ b → Below B w W := by
  subst hl
  refine ⟨w.setCells b 0 vs, ?_, ⟨by rw [setCells_size]; exact hA.lt, fun j hj => ⟨?_, ?_⟩⟩, fun k o hk => ?_, fun k o hk => ?_, setCells_size _ _ _ _, fun B hB => setCells_below b vs 0 w B hB⟩
  · exact run_storeCells_cells b 0 vs 0 w (fun j hj => by simp [hA.cell hj]) (fun j hj => by simpa using hA.free hj) h1
  · have := World.cell?_setCells_in b vs 0 w (fun i hi => by simp [hA.cell hi]) j hj
    rw [Nat.zero_add] at this
    rw [this]; show _ = some (vs.getD j undef)
    rw [List.getD_eq_getElem?_getD, List.getElem?_eq_getElem hj]; rfl
  · rw [World.frozen?_setCells]; exact hA.free hj
  · exact World.cell?_of_block (w := w) (a := ⟨k, o, none⟩) (setCells_far b vs 0 w k hk)
  · exact World.frozen?_of_block (w := w) (a := ⟨k, o, none⟩) (setCells_far b vs 0 w k hk)

theorem loads {P : Program} {w : World} {b n : Nat} {f : Nat → Value} (hA : Arr w b n f) :
    (loadCellsFrom ⟨b, 0, none⟩ 0 n #[]).run P w = .ok ((List.range n).map f).toArray w := by
  have := run_loadCells (P := P) w ⟨b, 0, none⟩ n f (fun j hj => by
    have hadd : (⟨b, 0, none⟩ : Addr).add j = ⟨b, j, none⟩ := by unfold Addr.add; split <;> simp_all
    rw [hadd]; exact hA.cell hj)
  simpa [loadCells] using this

/-- As many numbers as a function of places. -/
def rowOf (n : Nat) (f : Nat → Int) : List Value := (List.range n).map fun j => Value.int .i64 (f j)
theorem rowOf_len (n : Nat) (f : Nat → Int) : (rowOf n f).length = n := by simp [rowOf]
theorem rowOf_one (n : Nat) (f : Nat → Int) : ∀ v ∈ rowOf n f, v.oneCell' = true := by
  intro v hv
  obtain ⟨j, _, rfl⟩ := List.mem_map.1 hv
  rfl
theorem rowOf_get (n : Nat) (f : Nat → Int) {j : Nat} (h : j < n) : (rowOf n f).getD j undef = .int .i64 (f j) := by
  simp [rowOf, List.getD_eq_getElem?_getD, h]
theorem rowOf_congr {n : Nat} {f g : Nat → Int} (h : ∀ j, j < n → f j = g j) : rowOf n f = rowOf n g := by
  unfold rowOf
  refine List.map_congr_left fun j hj => ?_
  rw [h j (List.mem_range.1 hj)]
theorem Nums.stores {P : Program} {w : World} {b n : Nat} {f : Nat → Value} (hA : Arr w b n f) (g : Nat → Int) :
    ∃ W, (storeCells ⟨b, 0, none⟩ (rowOf n g) 0).run P w = .ok () W ∧ Nums W b n g ∧
      (∀ k o, k ≠ b → W.cell? ⟨k, o, none⟩ = w.cell? ⟨k, o, none⟩) ∧ (∀ k o, k ≠ b → W.frozen? ⟨k, o, none⟩ = w.frozen? ⟨k, o, none⟩) ∧ W.heap.size = w.heap.size ∧ ∀ B, B ≤ b → Below B w W := by
  obtain ⟨W, h1, h2, h3⟩ := Go.Proofs.Ytimfggbfapbihaa.stores (P := P) hA (rowOf n g) (rowOf_len n g) (rowOf_one n g)
  exact ⟨W, h1, h2.congr fun j hj => rowOf_get n g hj, h3⟩
theorem Nums.loads {P : Program} {w : World} {b n : Nat} {f : Nat → Int} (hA : Nums w b n f) :
    (loadCellsFrom ⟨b, 0, none⟩ 0 n #[]).run P w = .ok (rowOf n f).toArray w := Go.Proofs.Ytimfggbfapbihaa.loads hA
theorem Arr.kept {w W : World} {b n : Nat} {f : Nat → Value} (h : Arr w b n f) (hc : ∀ o, W.cell? ⟨b, o, none⟩ = w.cell? ⟨b, o, none⟩) (hf : ∀ o, W.frozen? ⟨b, o, none⟩ = w.frozen? ⟨b, o, none⟩) (hz : w.heap.size ≤ W.heap.size) : Arr W b n f :=
  ⟨Nat.lt_of_lt_of_le h.1 hz, fun j hj => ⟨by rw [hc]; exact h.cell hj, by rw [hf]; exact h.free hj⟩⟩

theorem loadVar_arr {P : Program} {w : World} {b n : Nat} {f : Nat → Value} (hA : Arr w b n f) {ty : TypeId} {d : TypeDesc} (hu : P.underlying ty = some d)
    (hd : (match d with | .struct _ | .array _ _ => true | _ => false) = true) (hi : (P.info? ty).map (·.size) = some n) :
    (loadVar ty ⟨b, 0, none⟩).run P w = .ok (.agg ((List.range n).map f).toArray) w := by
  have hl := loads (P := P) hA
  cases hq : P.info? ty with
  | none => simp [hq] at hi
  | some i =>
    have hs : i.size = n := by simpa [hq] using hi
    have hagg : (isAgg ty).run P w = .ok true w := by
      unfold isAgg
      rw [Sem.run_bind, run_underlying hu w]
      cases d <;> simp_all
    simp [loadVar, Sem.run_bind, hagg, sizeOf, typeInfo, hq, hs, loadCells, hl]
theorem results_tab {P : Program} {fn : Func} {p u : Tmp} {ty : TypeId} (h : fn.results = #[.cell p ty, .tmp u]) {tmps : Array Value} {w : World} {b n : Nat} {f : Nat → Int} (hA : Nums w b n f) {d : TypeDesc} (hu : P.underlying ty = some d)
    (hd : (match d with | .struct _ | .array _ _ => true | _ => false) = true) (hi : (P.info? ty).map (·.size) = some n) (hp : tmps.getD p undef = .pointer (some ⟨b, 0, none⟩)) :
    (results fn tmps).run P w = .ok (.tuple #[.agg (rowOf n f).toArray, tmps.getD u undef]) w := by
  rw [results_cell_tmp h, hp]
  have : (asAddr (.pointer (some ⟨b, 0, none⟩))).run P w = .ok ⟨b, 0, none⟩ w := rfl
  rw [this]
  simp only [Result.andThen_ok]
  rw [loadVar_arr hA hu hd hi]
  rfl

theorem Arr.belowB {w w' : World} {B b n : Nat} {f : Nat → Value} (h : Arr w b n f) (hb : Below B w w') (hB : b < B) : Arr w' b n f :=
  ⟨Nat.lt_of_lt_of_le h.1 hb.size, fun i hi => ⟨by rw [hb.cell (p := ⟨b, i, none⟩) hB]; exact h.cell hi, by rw [hb.frozen (p := ⟨b, i, none⟩) hB]; exact h.free hi⟩⟩

theorem wp_load_tab {P : Program} {o : Oper} {a : Act} {w : World} {K : Act → World → Prop} {Q : Exit → Act → World → Prop} (ty : TypeId) (x : Operand) (ho : o.op = .load ty x)
    (b : Nat) (hx : a.eval x = .pointer (some ⟨b, 0, none⟩)) {n : Nat} {f : Nat → Int} (hA : Nums w b n f) {d : TypeDesc}
    (hu : P.underlying ty = some d) (hd : (match d with | .struct _ | .array _ _ => true | _ => false) = true) (hi : (P.info? ty).map (·.size) = some n)
    (h : K (a.put o.dst (.agg (rowOf n f).toArray)) w) : o.wp P a w K Q := by
  unfold Oper.wp execOp
  simp only [ho, hx, Instr.loadAt, Instr.sureAddr, Sem.run_bind, Sem.run_pure, Result.andThen_ok, loadVar_arr hA hu hd hi]
  exact h
theorem wpList_load_tab {P : Program} {ops : Array Oper} {rest : List Oper} {o : Oper} {a : Act} {w : World} {Q : Exit → Act → World → Prop} (hgd : o.guard = none) (ty : TypeId) (x : Operand) (ho : o.op = .load ty x)
    (b : Nat) (hx : a.eval x = .pointer (some ⟨b, 0, none⟩)) {n : Nat} {f : Nat → Int} (hA : Nums w b n f) {d : TypeDesc}
    (hu : P.underlying ty = some d) (hd : (match d with | .struct _ | .array _ _ => true | _ => false) = true) (hi : (P.info? ty).map (·.size) = some n)
    (h : wpList P ops Q rest (a.put o.dst (.agg (rowOf n f).toArray)) w) : wpList P ops Q (o :: rest) a w :=
  wpList_plain hgd fun _ hK => wp_load_tab ty x ho b hx hA hu hd hi (hK _ _ h)

theorem results_arr1 {P : Program} {fn : Func} {p : Tmp} {ty : TypeId} (h : fn.results = #[.cell p ty]) {tmps : Array Value} {w : World} {b n : Nat} {f : Nat → Value} (hA : Arr w b n f) {d : TypeDesc} (hu : P.underlying ty = some d)
    (hd : (match d with | .struct _ | .array _ _ => true | _ => false) = true) (hi : (P.info? ty).map (·.size) = some n) (hp : tmps.getD p undef = .pointer (some ⟨b, 0, none⟩)) :
    (results fn tmps).run P w = .ok (.agg ((List.range n).map f).toArray) w := by
  have hp' : tmps[p]?.getD undef = .pointer (some ⟨b, 0, none⟩) := by simpa using hp
  simp [results, h, hp', asAddr, loadVar_arr hA hu hd hi]

theorem results_arrT {P : Program} {fn : Func} {p u : Tmp} {ty : TypeId} (h : fn.results = #[.cell p ty, .tmp u]) {tmps : Array Value} {w : World} {b n : Nat} {f : Nat → Value} (hA : Arr w b n f) {d : TypeDesc} (hu : P.underlying ty = some d)
    (hd : (match d with | .struct _ | .array _ _ => true | _ => false) = true) (hi : (P.info? ty).map (·.size) = some n) (hp : tmps.getD p undef = .pointer (some ⟨b, 0, none⟩)) :
    (results fn tmps).run P w = .ok (.tuple #[.agg ((List.range n).map f).toArray, tmps.getD u undef]) w := by
  rw [results_cell_tmp h, hp]
  have : (asAddr (.pointer (some ⟨b, 0, none⟩))).run P w = .ok ⟨b, 0, none⟩ w := rfl
  rw [this]
  simp only [Result.andThen_ok]
  rw [loadVar_arr hA hu hd hi]
  rfl

end Go.Proofs.Ytimfggbfapbihaa
