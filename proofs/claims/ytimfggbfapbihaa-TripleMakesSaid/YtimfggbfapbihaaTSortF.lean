/-
  Contract: the library's slices.SortFunc, on rows of the call's own, by the closure of a system's design. No condition.
-/
import Derived.Sort.OwnSortedInts
import Derived.Test.YtimfggbfapbihaaTCmp
import Derived.Test.YtimfggbfapbihaaOwnL
import Derived.Test.YtimfggbfapbihaaFuncLay
namespace Go.Proofs.Ytimfggbfapbihaa
open Go.RowKit Go.Sort Go.Lib

theorem heap_rows {α : Type} [Inhabited α] (enc : α → Value) {w : World} {g n : Nat} {os : Array Obj} {cur : Array Value} {e : TypeId} {fr : Nat × Nat} (d : Array α) (hb : w.heap[g]? = some (.cells cur e fr)) :
    (sortWorld enc w g 0 n d os).heap[g]? = some (.cells (putCells enc 0 d cur) e fr) := by
  have hg : g < w.heap.size := (Array.getElem?_eq_some_iff.1 hb).1
  unfold sortWorld
  rw [heap_grow_old _ _ (by simpa using hg)]
  simp [putRow, mapBlock, Sort.ahead, Array.getElem?_modify, hb, onCells]
theorem grownBy_rows {α : Type} [Inhabited α] (enc : α → Value) {w : World} {g n : Nat} {os : Array Obj} (d : Array α) : w.grownBy (sortWorld enc w g 0 n d os) (some g) := by
  unfold sortWorld
  refine ⟨rfl, rfl, rfl, by simp, fun k hk hne => ?_⟩
  rw [heap_grow_old _ _ (by simpa using hk)]
  have : g ≠ k := fun e => hne (by rw [e])
  simp [putRow, mapBlock, Sort.ahead, Array.getElem?_modify, this]
theorem take_rows {α : Type} [Inhabited α] (enc : α → Value) (cur : Array Value) (d : Array α) (h : d.size ≤ cur.size) : (putCells enc 0 d cur).toList.take d.size = (List.range d.size).map (fun i => enc d[i]!) := by
  apply List.ext_getElem?
  intro j
  by_cases hj : j < d.size
  · rw [List.getElem?_take_of_lt hj, Array.getElem?_toList]
    simp [putCells, hj, show j < cur.size by omega]
  · rw [List.getElem?_take_eq_none (by omega), List.getElem?_eq_none (by simp; omega)]
theorem map_fin (xss : List (List Int)) : (List.finRange xss.length).map (fun i => rx xss i.1) = xss := by
  apply List.ext_getElem
  · simp
  · intro i h1 h2
    simp [rx_lt h2]
theorem eg_closure (args : Array Value) (w : World) : (callFunc 14 args).run Try.prog w = .ok (.enter 14 args) w := by kernel_rfl
/-- The rows, by number. -/
def cfR (xss : List (List Int)) (x y : Fin xss.length) : Int := cmpL (rx xss x.1) (rx xss y.1)
theorem ltR (xss : List (List Int)) (x y : Fin xss.length) : ltOf (cfR xss) x y = lexB (rx xss x.1) (rx xss y.1) := cmpL_lt _ _
theorem swoR (xss : List (List Int)) : SWO (ltOf (cfR xss)) where
  irrefl x := by rw [ltR]; exact lexB_irrefl _
  trans x y z h1 h2 := by rw [ltR] at *; exact lexB_trans h1 h2
  ntrans x y z h1 h2 := by rw [ltR] at *; exact lexB_ntrans h1 h2

set_option maxHeartbeats 1000000 in
theorem sortFunc_own {base : Nat} {v : Value} {xss : List (List Int)} {w : World} (h : OwnL w base v xss) (hl : xss.length < 1000000000) (h3 : ∀ i, i < xss.length → (rx xss i).length = 3) :
    Calls Try.prog 13 #[v, .func (.func 14) #[] #[]] w fun e w' => e = .returned (.tuple #[]) ∧ OwnL w' base v (sortR xss) ∧ w.grownBy w' v.ownBlock := by
  have h0 := h
  obtain ⟨V, h1, h2⟩ := h
  have hnone : ∀ (p : Option Addr) (cap : Nat), v = .slice p 0 cap → xss.length = 0 → Calls Try.prog 13 #[v, .func (.func 14) #[] #[]] w fun e w' => e = .returned (.tuple #[]) ∧ OwnL w' base v (sortR xss) ∧ w.grownBy w' v.ownBlock := by
    intro p cap hv hn
    have hx : xss = [] := List.eq_nil_of_length_eq_zero hn
    subst hx; subst hv
    refine (Try.sortFunc_none p cap _ w).mono ?_
    rintro e w' ⟨rfl, rfl⟩
    have e : sortR [] = [] := List.eq_nil_of_length_eq_zero (sortR_len [])
    rw [e]
    exact ⟨rfl, h0, ⟨rfl, rfl, rfl, Nat.le_refl _, fun _ _ _ => rfl⟩⟩
  rcases h1.2 with ⟨rfl, hn⟩ | ⟨g, cap, cur, rfl, hg, hh, hc, hm, hs, ht⟩
  · exact hnone none 0 rfl hn
  · by_cases hn : xss.length = 0
    · exact hnone (some ⟨g, 0, none⟩) cap (by rw [hn]) hn
    · have hInh : Inhabited (Fin xss.length) := ⟨⟨0, by omega⟩⟩
      have hgs := (Array.getElem?_eq_some_iff.1 hh).1
      rw [Nat.mul_one] at ht hs
      have hd : (List.finRange xss.length).toArray.size = xss.length := by simp
      have hdj : ∀ j, (hj : j < xss.length) → (List.finRange xss.length).toArray[j]! = ⟨j, hj⟩ := fun j hj => by
        rw [getElem!_pos _ j (by simpa using hj)]; simp
      have hH : Holds (fun i : Fin xss.length => V i.1) w g 0 (List.finRange xss.length).toArray := by
        intro j hj
        rw [hd] at hj
        refine ⟨?_, by simp [World.frozen?, hh]⟩
        rw [hdj j hj, Nat.zero_add, cell_of_row w g j cur _ (0, 0) hh]
        have e : (cur.toList.take xss.length)[j]? = ((List.range xss.length).map V)[j]? := by rw [ht]
        rw [List.getElem?_take_of_lt hj] at e
        rw [← Array.getElem?_toList, e]
        simp [hj]
      have kept : ∀ (d : Array (Fin xss.length)) (m : Nat) (os : Array Obj) (i : Nat), i < xss.length → Own (sortWorld (fun i : Fin xss.length => V i.1) w g 0 m d os) base 3 (V i) (rx xss i) := fun d m os i hi =>
        World.ownsRow.kept (h2 i hi) (grownBy_rows _ d) (own_apart (by decide) (h2 i hi) h1)
      have hcmp : CmpLays1 Try.prog 14 #[] (fun i : Fin xss.length => V i.1) (cfR xss) g 0 (List.finRange xss.length).toArray.size w := by
        intro m os dk _ x y
        refine (closure_any (V x.1) (V y.1) (rx xss x.1) (rx xss y.1) _ ((kept dk m os x.1 x.2).intsAt (by rw [h3 _ x.2]; omega)) ((kept dk m os y.1 y.2).intsAt (by rw [h3 _ y.2]; omega)) (by rw [h3 _ x.2, h3 _ y.2])).mono ?_
        rintro e w' ⟨rfl, rfl⟩
        exact ⟨rfl, 0, #[], by rw [grow_empty]; rfl⟩
      have hS := Try.sortFunc_rows (fun i : Fin xss.length => V i.1) (fun x => own_one (h2 x.1 x.2)) (cfR xss) (swoR xss) 14 #[] g 0 cap (List.finRange xss.length).toArray w eg_closure hcmp hH hgs (by rw [hd]; omega)
      rw [hd] at hS
      refine hS.mono ?_
      rintro e w' ⟨rfl, d', n, os, hp, hso, rfl⟩
      have hd' : d'.size = xss.length := hp.1.trans hd
      have hperm : d'.toList.Perm (List.finRange xss.length) := by
        have := hp.2.2
        rw [Array.extract_eq_self_of_le (by omega), Array.extract_eq_self_of_le (by rw [hd]; omega)] at this
        simpa using this
      have hx : d'.toList.map (fun i => rx xss i.1) = sortR xss := by
        refine sortR_of ?_ ?_
        · have := hperm.map (fun i => rx xss i.1)
          rw [map_fin] at this; exact this
        · rw [List.pairwise_map, List.pairwise_iff_getElem]
          intro i j hi hj hij
          have h5 := hso i j (Nat.zero_le _) hij (by simp at hj; omega)
          rw [ltR, getElem!_pos d' j (by simpa using hj), getElem!_pos d' i (by simpa using hi)] at h5
          simpa using h5
      refine ⟨rfl, ⟨fun i => V (d'[i]!).1, ?_, fun i hi => ?_⟩, grownBy_rows _ d'⟩
      · rw [sortR_len]
        refine ⟨by simp, .inr ⟨g, cap, _, rfl, hg, heap_rows _ d' hh, hc, hm, by simp [putCells, hs], ?_⟩⟩
        have ht2 := take_rows (fun i : Fin xss.length => V i.1) cur d' (by omega)
        rw [hd'] at ht2
        rw [Nat.mul_one]; exact ht2
      · rw [sortR_len] at hi
        have e : rx (sortR xss) i = rx xss (d'[i]!).1 := by
          rw [← hx, rx_lt (by simp; omega), getElem!_pos d' i (by omega)]
          simp
        rw [e]
        exact kept d' n os _ (d'[i]!).2
end Go.Proofs.Ytimfggbfapbihaa
