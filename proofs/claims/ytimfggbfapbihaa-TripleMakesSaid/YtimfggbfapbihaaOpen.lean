/-
  The arguments of a law, opened: a slice of ints, a slice of such slices. No condition.
-/
import Derived.Test.YtimfggbfapbihaaLib
import Derived.ProofKit
import Derived.OpenShut
import Derived.ShutString
import Derived.ChangeOld
import Derived.Below
import Derived.Deep.Slices
import Derived.Lib.SmallJoins
namespace Go.Proofs.Ytimfggbfapbihaa
open Go.RowKit Go.ChangeShapes Go.WideShapes Go.Deep

theorem fits_of_wf {zs : List Int} (h : ∀ n ∈ zs, (Lit.int .i64 n).wf = true) : Fits zs := fun n hn => bounds_i64 (h n hn)

section
variable {H : Type} {enc : TypeId × Value → H} {P : Program} {w : World} {held : Bool}

theorem intsAt_of_trod {t e : TypeId} {fuel : Nat} {v : Value} {x : DataW H × List MemPlace} (ht : P.underlying t = some (.slice e)) (he : P.underlying e = some (.int .i64)) (hc : P.cellsOf e = 1)
    (hv : ∃ a l c, v = .slice a l c) (h : DataW.trod enc P w 0 (fun _ => true) held fuel t [v] = some x) : ∃ xs, IntsAt w v xs ∧ Fits xs := by
  rcases open_ints ht he hc h with ⟨hcs, _⟩ | ⟨a, len, cap, zs, hcs, _, hl, hm, hz, _, hcell, hwz⟩
  · have hv : v = .slice none 0 0 := by simpa using hcs
    subst hv
    exact ⟨[], intsAt_nil w, fun n hn => by simp at hn⟩
  · have hv : v = .slice (some a) len cap := by simpa using hcs
    subst hv
    have hz' : zs.length = cap := by simpa using hz
    unfold maxLen at hm
    have hlen : (zs.take len).length = len := by simp; omega
    refine ⟨zs.take len, ⟨some a, cap, by rw [hlen], by omega, by omega, (fun h => by cases h), fun i hi => ?_⟩, fits_of_wf (fun n hn => hwz n (List.mem_of_mem_take hn))⟩
    rw [hlen] at hi
    obtain ⟨b, off, rfl, hc'⟩ := ints_at hcell (by omega)
    refine ⟨b, off, rfl, ?_, fun j hj => ?_⟩
    · exact World.block_lt_of_cell? w ⟨b, off + 0, none⟩ (hc' 0 (by omega))
    · rw [hlen] at hj
      rw [hc' j (by omega)]
      simp [ix, List.getD_eq_getElem?_getD, hj]

theorem slice_of_trod {t e : TypeId} {fuel : Nat} {v : Value} {x : DataW H × List MemPlace} (ht : P.underlying t = some (.slice e))
    (h : DataW.trod enc P w 0 (fun _ => true) held fuel t [v] = some x) : ∃ a l c, v = .slice a l c := by
  rcases DataW.trod_slice ht h with ⟨h0, _⟩ | ⟨a, len, cap, elems, rest, n, _, h0, _⟩
  · exact ⟨none, 0, 0, by simpa using h0⟩
  · exact ⟨some a, len, cap, by simpa using h0⟩

theorem rowsAt_of_trod {t e q : TypeId} {fuel : Nat} {v : Value} {x : DataW H × List MemPlace} (ht : P.underlying t = some (.slice e)) (he : P.underlying e = some (.slice q)) (hq : P.underlying q = some (.int .i64))
    (ce : P.cellsOf e = 1) (cq : P.cellsOf q = 1)
    (h : DataW.trod enc P w 0 (fun _ => true) held fuel t [v] = some x) : ∃ xss, RowsAt w v xss ∧ ∀ xs ∈ xss, Fits xs := by
  rcases open_slice1 ht ce h with ⟨hcs, _⟩ | ⟨a, len, cap, m, n, V, D, Pl, hcs, _, hl, hm, hmm, _, hx⟩
  · have hv : v = .slice none 0 0 := by simpa using hcs
    subst hv
    exact ⟨[], ⟨none, 0, fun _ => .slice none 0 0, rfl, Nat.le_refl _, by omega, fun _ => rfl, fun i hi => by simp at hi⟩, fun n hn => by simp at hn⟩
  · have hv : v = .slice (some a) len cap := by simpa using hcs
    subst hv
    unfold maxLen at hm
    simp only [if_true] at hmm
    subst hmm
    have each : ∀ i, i < len → ∃ xs, IntsAt w (V i) xs ∧ Fits xs := fun i hi =>
      intsAt_of_trod he hq cq (slice_of_trod he (hx i (by omega)).2) (hx i (by omega)).2
    obtain ⟨X, hX⟩ := choose_lt (α := List Int) (p := fun i xs => IntsAt w (V i) xs ∧ Fits xs) each
    have hlen : ((List.range len).map X).length = len := by simp
    have hrx : ∀ i, i < len → rx ((List.range len).map X) i = X i := fun i hi => by simp [rx, List.getD_eq_getElem?_getD, hi]
    refine ⟨(List.range len).map X, ⟨some a, m, V, by rw [hlen], by omega, by omega, (fun h => by cases h), fun i hi => ?_⟩, fun xs hxs => ?_⟩
    · rw [hlen] at hi
      rw [hrx i hi]
      refine ⟨(hX i hi).1, ?_⟩
      have h0 := (hx 0 (by omega)).1
      obtain ⟨b, off, spot⟩ := a
      have hspot : spot = none := by simpa [Addr.add] using World.cell?_spot h0
      subst hspot
      refine ⟨b, off, rfl, ?_, fun j hj => ?_⟩
      · exact World.block_lt_of_cell? w _ h0
      · rw [hlen] at hj
        rw [← Go.WideShapes.add_plain]
        exact (hx j (by omega)).1
    · obtain ⟨i, hi, rfl⟩ := List.mem_map.1 hxs
      exact (hX i (List.mem_range.1 hi)).2
end
end Go.Proofs.Ytimfggbfapbihaa
